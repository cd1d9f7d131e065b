/-
  The plain law of conditions: pieces, parts, what they hold of; of chapter 27; lists alone, no program in sight.
  Conditions: as each theorem states them.
-/
import Derived.Test.YtcjcflmnghhbaaaGreatUnqD
import Derived.Test.YtcjcflmnghhbaaaGreatDigN
import Derived.Lib.IndexMore
namespace Go.Proofs.YtcjcflmnghhbaaaGreat
set_option linter.unusedVariables false
set_option linter.unusedSimpArgs false
namespace CM
abbrev lineW : List UInt8 := [108, 105, 110, 101]
abbrev pcW : List UInt8 := [112, 99]
abbrev exitW : List UInt8 := [101, 120, 105, 116]
abbrev waitsW : List UInt8 := [119, 97, 105, 116, 115]
abbrev patternW : List UInt8 := [112, 97, 116, 116, 101, 114, 110]
abbrev holdW : List UInt8 := [104, 111, 108, 100]
abbrev restW : List UInt8 := [114, 101, 115, 116]
abbrev outW : List UInt8 := [111, 117, 116]
abbrev substW : List UInt8 := [115, 117, 98, 115, 116]
abbrev silentW : List UInt8 := [115, 105, 108, 101, 110, 116]
abbrev quitW : List UInt8 := [113, 117, 105, 116]
abbrev againW : List UInt8 := [97, 103, 97, 105, 110]
abbrev failedW : List UInt8 := [102, 97, 105, 108, 101, 100]
abbrev beginW : List UInt8 := [98, 101, 103, 105, 110]
abbrev bodyW : List UInt8 := [98, 111, 100, 121]
abbrev endingW : List UInt8 := [101, 110, 100, 105, 110, 103]
abbrev haltedW : List UInt8 := [104, 97, 108, 116, 101, 100]
abbrev orW : List UInt8 := [111, 114]
abbrev andW : List UInt8 := [97, 110, 100]
abbrev notW : List UInt8 := [110, 111, 116]
abbrev isW : List UInt8 := [105, 115]
abbrev hasW : List UInt8 := [104, 97, 115]
abbrev changedW : List UInt8 := [99, 104, 97, 110, 103, 101, 100]
abbrev phaseW : List UInt8 := [112, 104, 97, 115, 101]
/-- what a condition sees of a state -/
structure Sv where
  line : Int
  pc : Int
  exit : Int
  waits : Int
  pattern : List UInt8
  hold : List UInt8
  rest : List UInt8
  out : List UInt8
  subst : Bool
  silent : Bool
  quit : Bool
  again : Bool
  err : Int
  phase : Int
/-- what a condition means -/
abbrev M := Sv → Sv → Bool
/-- a piece: its kind, its place, its number, its text -/
structure Pc where
  kind : Nat
  at_ : Nat
  n : Int
  s : List UInt8
/-- a parser: the piece at which it is, the place behind it, how deep it is -/
structure Ps where
  pc : Pc
  at_ : Nat
  deep : Nat
def numOf (w : List UInt8) : Option (Sv → Int) := if w = lineW then some (·.line) else if w = pcW then some (·.pc) else if w = exitW then some (·.exit) else if w = waitsW then some (·.waits) else none
def txtOf (w : List UInt8) : Option (Sv → List UInt8) := if w = patternW then some (·.pattern) else if w = holdW then some (·.hold) else if w = restW then some (·.rest) else if w = outW then some (·.out) else none
def flagOf (w : List UInt8) : Option (Sv → Bool) := if w = substW then some (·.subst) else if w = silentW then some (·.silent) else if w = quitW then some (·.quit) else if w = againW then some (·.again) else if w = failedW then some (fun s => s.err != 0) else none
def phOf (w : List UInt8) : Option Int := if w = beginW then some 0 else if w = bodyW then some 1 else if w = endingW then some 2 else if w = haltedW then some 3 else none
def isWord (w : List UInt8) : Bool := (numOf w).isSome || (txtOf w).isSome || (flagOf w).isSome || (phOf w).isSome || w == orW || w == andW || w == notW || w == isW || w == hasW || w == changedW || w == phaseW
def low (c : UInt8) : Bool := decide (97 ≤ c.toNat) && decide (c.toNat ≤ 122)
def blank (c : UInt8) : Bool := c == 32
abbrev Er := Nat × Int
/-- the place of the next piece -/
def skip (s : List UInt8) (a : Nat) : Nat := a + ((s.drop a).takeWhile blank).length
/-- the sign at the beginning, if one stands there -/
def signS : List UInt8 → List UInt8
  | 33 :: 61 :: _ => [33, 61]
  | 60 :: 61 :: _ => [60, 61]
  | 62 :: 61 :: _ => [62, 61]
  | 61 :: _ => [61]
  | 60 :: _ => [60]
  | 62 :: _ => [62]
  | _ => []
/-- the piece at a place: what stands there, that place and the piece -/
def pieceS (s : List UInt8) (b : Nat) (t : List UInt8) : Except Er (Pc × Nat) :=
  match t with
  | [] => .ok (⟨0, b, 0, []⟩, b)
  | c :: _ =>
    if low c then let w := t.takeWhile low; if isWord w then .ok (⟨1, b, 0, w⟩, b + w.length) else .error (b, 30)
    else if dig c then let N := numS s b 2147483648; if N.2.2 = 0 then .ok (⟨2, b, N.1, []⟩, N.2.1.toNat) else .error (b, N.2.2)
    else if c = 34 then let U := unquoteS s b; if U.2.2 = 0 then .ok (⟨3, b, 0, U.1⟩, U.2.1.toNat) else .error (b, U.2.2)
    else if c = 40 ∨ c = 41 then .ok (⟨5, b, 0, [c]⟩, b + 1)
    else if signS t = [] then .error (b, 9) else .ok (⟨4, b, 0, signS t⟩, b + (signS t).length)
/-- the next piece -/
def nextS (s : List UInt8) (a : Nat) : Except Er (Pc × Nat) := pieceS s (skip s a) (s.drop (skip s a))
def Ps.next (s : List UInt8) (p : Ps) : Except Er Ps := match nextS s p.at_ with | .error e => .error e | .ok (x, b) => .ok ⟨x, b, p.deep⟩
def Pc.is (x : Pc) (k : Nat) (w : List UInt8) : Bool := x.kind == k && x.s == w
/-- the piece must be of a kind; it is passed over -/
def Ps.take (s : List UInt8) (p : Ps) (k : Nat) : Except Er (Pc × Ps) := if p.pc.kind = k then match p.next s with | .error e => .error e | .ok q => .ok (p.pc, q) else .error (p.pc.at_, 9)
def signOf (w : List UInt8) (x n : Int) : Bool := x == n && (w == [61] || w == [60, 61] || w == [62, 61]) || decide (x < n) && (w == [60] || w == [60, 61] || w == [33, 61]) || decide (n < x) && (w == [62] || w == [62, 61] || w == [33, 61])
/-- does a text stand in another one? -/
def hasS (b part : List UInt8) : Bool := decide (0 ≤ Lib.index b part)
/-- what is told of a number -/
def numberS (s : List UInt8) (get : Sv → Int) (p : Ps) : Except Er (M × Ps) :=
  if p.pc.is 1 changedW then match p.next s with | .error e => .error e | .ok q => .ok (fun was now => get was != get now, q)
  else match p.take s 4 with
    | .error e => .error e
    | .ok (x, q) => match q.take s 2 with
      | .error e => .error e
      | .ok (y, r) => .ok (fun _ now => signOf x.s (get now) y.n, r)
/-- what is told of a text -/
def textS (s : List UInt8) (get : Sv → List UInt8) (p : Ps) : Except Er (M × Ps) :=
  if p.pc.is 1 changedW then match p.next s with | .error e => .error e | .ok q => .ok (fun was now => !(get was == get now), q)
  else if p.pc.is 1 hasW then match p.next s with
    | .error e => .error e
    | .ok q => match q.take s 3 with
      | .error e => .error e
      | .ok (y, r) => .ok (fun _ now => hasS (get now) y.s, r)
  else if p.pc.is 1 isW then match p.next s with
    | .error e => .error e
    | .ok q => match q.take s 3 with
      | .error e => .error e
      | .ok (y, r) => .ok (fun _ now => get now == y.s, r)
  else .error (p.pc.at_, 9)
/-- a phase's name -/
def phaseS (s : List UInt8) (p : Ps) : Except Er (M × Ps) :=
  if p.pc.kind = 1 then match phOf p.pc.s with
    | none => .error (p.pc.at_, 9)
    | some n => match p.next s with | .error e => .error e | .ok q => .ok (fun _ now => now.phase == n, q)
  else .error (p.pc.at_, 9)
/-- a part that is none of not and ( -/
def atomS (s : List UInt8) (p : Ps) : Except Er (M × Ps) :=
  if p.pc.kind = 1 then
    match flagOf p.pc.s, numOf p.pc.s, txtOf p.pc.s with
    | some f, _, _ => match p.next s with | .error e => .error e | .ok q => .ok (fun _ now => f now, q)
    | none, some f, _ => match p.next s with | .error e => .error e | .ok q => numberS s f q
    | none, none, some f => match p.next s with | .error e => .error e | .ok q => textS s f q
    | none, none, none => if p.pc.s = phaseW then match p.next s with | .error e => .error e | .ok q => phaseS s q else .error (p.pc.at_, 9)
  else .error (p.pc.at_, 9)
/-- one deeper -/
def deeperS (s : List UInt8) (p : Ps) : Except Er Ps := if p.deep = 20 then .error (p.pc.at_, 7) else Ps.next s ⟨p.pc, p.at_, p.deep + 1⟩
inductive Md
  | part
  | both
  | bothL (h : M)
  | either
  | eitherL (h : M)
/-- a part, a conjunction (its rest), a disjunction (its rest) -/
def run (s : List UInt8) : Nat → Md → Ps → Except Er (M × Ps)
  | 0, _, _ => .error (0, 99)
  | n + 1, .part, p =>
    if p.pc.is 1 notW then match deeperS s p with
      | .error e => .error e
      | .ok q => match run s n .part q with
        | .error e => .error e
        | .ok (h, r) => .ok (fun was now => !h was now, ⟨r.pc, r.at_, r.deep - 1⟩)
    else if p.pc.is 5 [40] then match deeperS s p with
      | .error e => .error e
      | .ok q => match run s n .either q with
        | .error e => .error e
        | .ok (h, r) => if r.pc.is 5 [41] then match Ps.next s ⟨r.pc, r.at_, r.deep - 1⟩ with
            | .error e => .error e
            | .ok t => .ok (h, t)
          else .error (r.pc.at_, 9)
    else atomS s p
  | n + 1, .both, p => match run s n .part p with
    | .error e => .error e
    | .ok (h, q) => run s n (.bothL h) q
  | n + 1, .bothL h, p =>
    if p.pc.is 1 andW then match p.next s with
      | .error e => .error e
      | .ok q => match run s n .part q with
        | .error e => .error e
        | .ok (b, r) => run s n (.bothL (fun was now => h was now && b was now)) r
    else .ok (h, p)
  | n + 1, .either, p => match run s n .both p with
    | .error e => .error e
    | .ok (h, q) => run s n (.eitherL h) q
  | n + 1, .eitherL h, p =>
    if p.pc.is 1 orW then match p.next s with
      | .error e => .error e
      | .ok q => match run s n .both q with
        | .error e => .error e
        | .ok (b, r) => run s n (.eitherL (fun was now => h was now || b was now)) r
    else .ok (h, p)
/-- how much is left -/
def mu (s : List UInt8) (p : Ps) : Nat := (s.length - p.at_) + (if p.pc.kind = 0 then 0 else 1)
def fuel (s : List UInt8) : Nat := 3 * s.length + 6
/-- a whole condition -/
def parseS (s : List UInt8) : Except Er M :=
  if 4096 < s.length then .error (0, 8) else
  match nextS s 0 with
  | .error e => .error e
  | .ok (x, b) => match run s (fuel s) .either ⟨x, b, 0⟩ with
    | .error e => .error e
    | .ok (h, r) => if r.pc.kind = 0 then .ok h else .error (r.pc.at_, 9)
end CM
end Go.Proofs.YtcjcflmnghhbaaaGreat
/-
  The plain law of conditions: a piece takes what it takes; of chapter 27.
  Conditions: as each theorem states them.
-/
namespace Go.Proofs.YtcjcflmnghhbaaaGreat
set_option linter.unusedVariables false
set_option linter.unusedSimpArgs false
theorem unqS_range : ∀ (n : Nat) (s out : List UInt8) (a : Nat), s.length ≤ n → (unqS out a s).2.2 = 0 → ∃ b : Nat, (unqS out a s).2.1 = b ∧ a < b ∧ b ≤ a + s.length
  | n, [], out, a, _, h => by rw [unqS_nil] at h; simp at h
  | 0, c :: r, out, a, hn, h => by simp at hn
  | n + 1, c :: r, out, a, hn, h => by
    simp only [List.length_cons] at hn
    by_cases h1 : c = 34
    · subst h1
      rw [unqS_end]
      exact ⟨a + 1, by simp, by omega, by simp⟩
    · by_cases h2 : c = 92
      · subst h2
        cases he : escS r with
        | error e =>
          rw [unqS_err _ _ _ _ he] at h
          exfalso
          simp only at h
          subst h
          unfold escS at he
          split at he
          · injection he with he; simp at he
          · split at he
            · cases he
            · split at he
              · cases he
              · rename_i e h2
                injection he with he
                subst he
                unfold octS at h2
                repeat' split at h2
                all_goals first | (injection h2 with h2; simp at h2; done) | (cases h2; done) | (simp only at h2; split at h2 <;> first | (injection h2 with h2; simp at h2; done) | cases h2)
        | ok x =>
          obtain ⟨x, k⟩ := x
          rw [unqS_esc _ _ _ _ _ he] at h ⊢
          have hk := escS_len he
          obtain ⟨b, e, h3, h4⟩ := unqS_range n (r.drop k) (out ++ [x]) (a + 1 + k) (by simp; omega) h
          refine ⟨b, e, by omega, ?_⟩
          simp only [List.length_drop, List.length_cons] at h4 ⊢; omega
      · rw [unqS_plain _ _ _ _ h1 h2] at h ⊢
        obtain ⟨b, e, h3, h4⟩ := unqS_range n r (out ++ [c]) (a + 1) (by omega) h
        exact ⟨b, e, by omega, by simp only [List.length_cons]; omega⟩
theorem unquote_range (s : List UInt8) (a : Nat) (h : (unquoteS s a).2.2 = 0) : ∃ b : Nat, (unquoteS s a).2.1 = b ∧ a < b ∧ b ≤ s.length := by
  unfold unquoteS at h ⊢
  split at h
  · simp at h
  · rename_i h0
    rw [if_neg h0]
    simp only [Int.toNat_natCast] at h ⊢
    cases hd : s.drop a with
    | nil => rw [hd] at h; simp at h
    | cons c r =>
      rw [hd] at h
      simp only at h ⊢
      split at h
      · simp at h
      · rename_i h1
        rw [if_neg h1]
        obtain ⟨b, e, h3, h4⟩ := unqS_range _ r [] (a + 1) (Nat.le_refl _) h
        refine ⟨b, e, by omega, ?_⟩
        have := congrArg List.length hd
        simp only [List.length_drop, List.length_cons] at this; omega
theorem numS_range (s : List UInt8) (a : Nat) (m : Int) (h : (numS s a m).2.2 = 0) : ∃ b : Nat, (numS s a m).2.1 = b ∧ a < b ∧ b ≤ s.length := by
  unfold numS at h ⊢
  split at h
  · simp at h
  · rename_i h0
    rw [if_neg h0]
    simp only [Int.toNat_natCast] at h ⊢
    split at h
    · simp at h
    · rename_i h1
      rw [if_neg h1]
      split at h
      · simp at h
      · rename_i h2
        rw [if_neg h2]
        have h3 : ((s.drop a).takeWhile dig).length ≤ (s.drop a).length := (List.takeWhile_prefix dig).length_le
        have h4 : 0 < ((s.drop a).takeWhile dig).length := by
          rcases Nat.eq_zero_or_pos ((s.drop a).takeWhile dig).length with h | h
          · exact absurd (by simpa using h) h1
          · exact h
        simp only [List.length_drop] at h3
        exact ⟨a + ((s.drop a).takeWhile dig).length, by simp, by omega, by omega⟩
namespace CM
theorem skip_le (s : List UInt8) (a : Nat) (h : a ≤ s.length) : a ≤ skip s a ∧ skip s a ≤ s.length := by
  unfold skip
  have h3 : ((s.drop a).takeWhile blank).length ≤ (s.drop a).length := (List.takeWhile_prefix blank).length_le
  simp only [List.length_drop] at h3
  omega
theorem signS_len (t : List UInt8) : (signS t).length ≤ t.length := by
  unfold signS
  split <;> simp
/-- a piece: where it stands, and where it ends -/
theorem piece_le {s : List UInt8} {b : Nat} (hb : b ≤ s.length) {x : Pc} {c : Nat} (h : pieceS s b (s.drop b) = .ok (x, c)) : x.at_ = b ∧ c ≤ s.length ∧ (x.kind = 0 → c = s.length) ∧ (x.kind ≠ 0 → b < c) ∧ x.kind ≤ 5 := by
  unfold pieceS at h
  cases hd : s.drop b with
  | nil =>
    rw [hd] at h
    simp only [Except.ok.injEq, Prod.mk.injEq] at h
    obtain ⟨rfl, rfl⟩ := h
    have := congrArg List.length hd
    simp only [List.length_drop, List.length_nil] at this
    refine ⟨rfl, hb, fun _ => by omega, fun h => absurd rfl h, by simp⟩
  | cons d r =>
    have hlen := congrArg List.length hd
    simp only [List.length_drop, List.length_cons] at hlen
    rw [hd] at h
    simp only at h
    split at h
    · rename_i hl
      split at h
      · simp only [Except.ok.injEq, Prod.mk.injEq] at h
        obtain ⟨rfl, rfl⟩ := h
        have h3 : ((d :: r).takeWhile low).length ≤ (d :: r).length := (List.takeWhile_prefix low).length_le
        have h4 : 0 < ((d :: r).takeWhile low).length := by rw [List.takeWhile_cons, if_pos hl]; simp
        simp only [List.length_cons] at h3
        exact ⟨rfl, by omega, by simp, fun _ => by omega, by simp⟩
      · cases h
    · split at h
      · split at h
        · rename_i hn
          simp only [Except.ok.injEq, Prod.mk.injEq] at h
          obtain ⟨rfl, rfl⟩ := h
          obtain ⟨e, h1, h2, h3⟩ := numS_range s b _ hn
          rw [h1]
          exact ⟨rfl, by simpa using h3, by simp, fun _ => by simpa using h2, by simp⟩
        · cases h
      · split at h
        · split at h
          · rename_i hn
            simp only [Except.ok.injEq, Prod.mk.injEq] at h
            obtain ⟨rfl, rfl⟩ := h
            obtain ⟨e, h1, h2, h3⟩ := unquote_range s b hn
            rw [h1]
            exact ⟨rfl, by simpa using h3, by simp, fun _ => by simpa using h2, by simp⟩
          · cases h
        · split at h
          · simp only [Except.ok.injEq, Prod.mk.injEq] at h
            obtain ⟨rfl, rfl⟩ := h
            exact ⟨rfl, by omega, by simp, fun _ => by omega, by simp⟩
          · split at h
            · cases h
            · rename_i hs
              simp only [Except.ok.injEq, Prod.mk.injEq] at h
              obtain ⟨rfl, rfl⟩ := h
              have h3 := signS_len (d :: r)
              simp only [List.length_cons] at h3
              have h4 : 0 < (signS (d :: r)).length := by
                rcases Nat.eq_zero_or_pos (signS (d :: r)).length with h | h
                · exact absurd (by simpa using h) hs
                · exact h
              exact ⟨rfl, by omega, by simp, fun _ => by omega, by simp⟩
theorem next_le {s : List UInt8} {a : Nat} (ha : a ≤ s.length) {x : Pc} {c : Nat} (h : nextS s a = .ok (x, c)) : c ≤ s.length ∧ x.at_ ≤ s.length ∧ (x.kind = 0 → c = s.length) ∧ (x.kind ≠ 0 → a < c) ∧ x.kind ≤ 5 := by
  have h1 := skip_le s a ha
  obtain ⟨h2, h3, h4, h5, h6⟩ := piece_le h1.2 h
  exact ⟨h3, by omega, h4, fun h => by have := h5 h; omega, h6⟩
/-- what holds of any parser -/
structure Ok (s : List UInt8) (p : Ps) : Prop where
  le : p.at_ ≤ s.length
  pat : p.pc.at_ ≤ s.length
  deep : p.deep ≤ 20
  kind : p.pc.kind ≤ 5
theorem next_mu {s : List UInt8} {p q : Ps} (hp : p.at_ ≤ s.length) (hd : p.deep ≤ 20) (h : p.next s = .ok q) : Ok s q ∧ q.deep = p.deep ∧ (p.pc.kind ≠ 0 → mu s q < mu s p) := by
  unfold Ps.next at h
  split at h
  · cases h
  · rename_i x b hn
    simp only [Except.ok.injEq] at h
    subst h
    obtain ⟨h1, h2, h3, h4, h5⟩ := next_le hp hn
    refine ⟨⟨h1, h2, hd, h5⟩, rfl, fun hk => ?_⟩
    unfold mu
    simp only
    rw [if_neg hk]
    split
    · omega
    · rename_i h6
      have := h4 h6; omega
/-- what is done with what is left: fit, as deep, no more left -/
structure Less (s : List UInt8) (p q : Ps) : Prop where
  ok : Ok s q
  deep : q.deep = p.deep
  mu : mu s q ≤ mu s p
theorem Less.trans {s : List UInt8} {p q r : Ps} (h : Less s p q) (k : Less s q r) : Less s p r := ⟨k.ok, k.deep.trans h.deep, Nat.le_trans k.mu h.mu⟩
theorem next_less {s : List UInt8} {p q : Ps} (hp : Ok s p) (hk : p.pc.kind ≠ 0) (h : p.next s = .ok q) : Less s p q ∧ mu s q < mu s p := by
  obtain ⟨h1, h2, h3⟩ := next_mu hp.le hp.deep h
  exact ⟨⟨h1, h2, Nat.le_of_lt (h3 hk)⟩, h3 hk⟩
theorem is_kind {x : Pc} {k : Nat} {w : List UInt8} (h : x.is k w = true) : x.kind = k ∧ x.s = w := by
  unfold Pc.is at h
  simpa using h
theorem is_some {x : Pc} {k : Nat} {w : List UInt8} (h : x.is (k + 1) w = true) : x.kind ≠ 0 := by have := (is_kind h).1; omega
theorem take_less {s : List UInt8} {p q : Ps} {k : Nat} {x : Pc} (hp : Ok s p) (h : p.take s (k + 1) = .ok (x, q)) : Less s p q := by
  unfold Ps.take at h
  split at h
  · rename_i hk
    split at h
    · cases h
    · rename_i q' hn
      simp only [Except.ok.injEq, Prod.mk.injEq] at h
      obtain ⟨rfl, rfl⟩ := h
      exact (next_less hp (by omega) hn).1
  · cases h
theorem number_less {s : List UInt8} {p q : Ps} {get : Sv → Int} {h : M} (hp : Ok s p) (he : numberS s get p = .ok (h, q)) : Less s p q := by
  unfold numberS at he
  split at he
  · rename_i hi
    split at he
    · cases he
    · rename_i q' hn
      simp only [Except.ok.injEq, Prod.mk.injEq] at he
      obtain ⟨_, rfl⟩ := he
      exact (next_less hp (is_some hi) hn).1
  · split at he
    · cases he
    · rename_i x q' hn
      have h1 := take_less hp hn
      split at he
      · cases he
      · rename_i y r hm
        have h2 := take_less h1.ok hm
        simp only [Except.ok.injEq, Prod.mk.injEq] at he
        obtain ⟨_, rfl⟩ := he
        exact h1.trans h2
theorem text_less {s : List UInt8} {p q : Ps} {get : Sv → List UInt8} {h : M} (hp : Ok s p) (he : textS s get p = .ok (h, q)) : Less s p q := by
  unfold textS at he
  split at he
  · rename_i hi
    split at he
    · cases he
    · rename_i q' hn
      simp only [Except.ok.injEq, Prod.mk.injEq] at he
      obtain ⟨_, rfl⟩ := he
      exact (next_less hp (is_some hi) hn).1
  · split at he
    · rename_i hi
      split at he
      · cases he
      · rename_i q' hn
        have h1 := (next_less hp (is_some hi) hn).1
        split at he
        · cases he
        · rename_i y r hm
          simp only [Except.ok.injEq, Prod.mk.injEq] at he
          obtain ⟨_, rfl⟩ := he
          exact h1.trans (take_less h1.ok hm)
    · split at he
      · rename_i hi
        split at he
        · cases he
        · rename_i q' hn
          have h1 := (next_less hp (is_some hi) hn).1
          split at he
          · cases he
          · rename_i y r hm
            simp only [Except.ok.injEq, Prod.mk.injEq] at he
            obtain ⟨_, rfl⟩ := he
            exact h1.trans (take_less h1.ok hm)
      · cases he
theorem phase_less {s : List UInt8} {p q : Ps} {h : M} (hp : Ok s p) (he : phaseS s p = .ok (h, q)) : Less s p q := by
  unfold phaseS at he
  split at he
  · rename_i hk
    split at he
    · cases he
    · split at he
      · cases he
      · rename_i q' hn
        simp only [Except.ok.injEq, Prod.mk.injEq] at he
        obtain ⟨_, rfl⟩ := he
        exact (next_less hp (by omega) hn).1
  · cases he
theorem atom_less {s : List UInt8} {p q : Ps} {h : M} (hp : Ok s p) (he : atomS s p = .ok (h, q)) : Less s p q ∧ mu s q < mu s p := by
  unfold atomS at he
  split at he
  · rename_i hk
    split at he
    · split at he
      · cases he
      · rename_i q' hn
        simp only [Except.ok.injEq, Prod.mk.injEq] at he
        obtain ⟨_, rfl⟩ := he
        exact next_less hp (by omega) hn
    · split at he
      · cases he
      · rename_i q' hn
        obtain ⟨h1, h2⟩ := next_less hp (by omega) hn
        have h3 := number_less h1.ok he
        exact ⟨h1.trans h3, Nat.lt_of_le_of_lt h3.mu h2⟩
    · split at he
      · cases he
      · rename_i q' hn
        obtain ⟨h1, h2⟩ := next_less hp (by omega) hn
        have h3 := text_less h1.ok he
        exact ⟨h1.trans h3, Nat.lt_of_le_of_lt h3.mu h2⟩
    · split at he
      · split at he
        · cases he
        · rename_i q' hn
          obtain ⟨h1, h2⟩ := next_less hp (by omega) hn
          have h3 := phase_less h1.ok he
          exact ⟨h1.trans h3, Nat.lt_of_le_of_lt h3.mu h2⟩
      · cases he
  · cases he
theorem deeper_less {s : List UInt8} {p q : Ps} (hp : Ok s p) (hk : p.pc.kind ≠ 0) (h : deeperS s p = .ok q) : Ok s q ∧ q.deep = p.deep + 1 ∧ mu s q < mu s p := by
  unfold deeperS at h
  split at h
  · cases h
  · rename_i hd
    have := hp.deep
    obtain ⟨h1, h2, h3⟩ := next_mu (p := ⟨p.pc, p.at_, p.deep + 1⟩) hp.le (by simp only; omega) h
    exact ⟨h1, h2, h3 hk⟩
def Md.eats : Md → Bool
  | .bothL _ => false
  | .eitherL _ => false
  | _ => true
theorem run_less (s : List UInt8) : ∀ (n : Nat) (m : Md) (p q : Ps) (h : M), Ok s p → run s n m p = .ok (h, q) → Less s p q ∧ (m.eats = true → mu s q < mu s p)
  | 0, m, p, q, h, hp, he => by simp [run] at he
  | n + 1, .part, p, q, h, hp, he => by
    have ih := run_less s n
    simp only [run] at he
    split at he
    · rename_i hi
      split at he
      · cases he
      · rename_i q1 h1
        obtain ⟨a1, a2, a3⟩ := deeper_less hp (is_some hi) h1
        split at he
        · cases he
        · rename_i h2 r hr
          obtain ⟨b1, b2⟩ := ih _ _ _ _ a1 hr
          simp only [Except.ok.injEq, Prod.mk.injEq] at he
          obtain ⟨_, rfl⟩ := he
          have hb := b1.deep
          have hd := b1.ok.deep
          have : mu s ⟨r.pc, r.at_, r.deep - 1⟩ = mu s r := rfl
          have hm := b1.mu
          exact ⟨⟨⟨b1.ok.le, b1.ok.pat, by simp only; omega, b1.ok.kind⟩, by simp only; omega, by omega⟩, fun _ => by omega⟩
    · split at he
      · rename_i hi
        split at he
        · cases he
        · rename_i q1 h1
          obtain ⟨a1, a2, a3⟩ := deeper_less hp (is_some hi) h1
          split at he
          · cases he
          · rename_i h2 r hr
            obtain ⟨b1, b2⟩ := ih _ _ _ _ a1 hr
            split at he
            · rename_i hc
              split at he
              · cases he
              · rename_i t ht
                have hb := b1.deep
                have hd := b1.ok.deep
                obtain ⟨c1, c2, c3⟩ := next_mu (p := ⟨r.pc, r.at_, r.deep - 1⟩) b1.ok.le (by simp only; omega) ht
                simp only [Except.ok.injEq, Prod.mk.injEq] at he
                obtain ⟨_, rfl⟩ := he
                have := c3 (is_some hc)
                have hmm : mu s ⟨r.pc, r.at_, r.deep - 1⟩ = mu s r := rfl
                have hm := b1.mu
                exact ⟨⟨c1, by simp only at c2; omega, by omega⟩, fun _ => by omega⟩
            · cases he
      · obtain ⟨h1, h2⟩ := atom_less hp he
        exact ⟨h1, fun _ => h2⟩
  | n + 1, .both, p, q, h, hp, he => by
    have ih := run_less s n
    simp only [run] at he
    split at he
    · cases he
    · rename_i h1 q1 hr
      obtain ⟨a1, a2⟩ := ih _ _ _ _ hp hr
      obtain ⟨b1, b2⟩ := ih _ _ _ _ a1.ok he
      exact ⟨a1.trans b1, fun _ => Nat.lt_of_le_of_lt b1.mu (a2 rfl)⟩
  | n + 1, .either, p, q, h, hp, he => by
    have ih := run_less s n
    simp only [run] at he
    split at he
    · cases he
    · rename_i h1 q1 hr
      obtain ⟨a1, a2⟩ := ih _ _ _ _ hp hr
      obtain ⟨b1, b2⟩ := ih _ _ _ _ a1.ok he
      exact ⟨a1.trans b1, fun _ => Nat.lt_of_le_of_lt b1.mu (a2 rfl)⟩
  | n + 1, .bothL h0, p, q, h, hp, he => by
    have ih := run_less s n
    simp only [run] at he
    split at he
    · rename_i hi
      split at he
      · cases he
      · rename_i q1 hn
        obtain ⟨a1, a2⟩ := next_less hp (is_some hi) hn
        split at he
        · cases he
        · rename_i b r hr
          obtain ⟨b1, b2⟩ := ih _ _ _ _ a1.ok hr
          obtain ⟨c1, c2⟩ := ih _ _ _ _ b1.ok he
          exact ⟨a1.trans (b1.trans c1), fun h => by simp [Md.eats] at h⟩
    · simp only [Except.ok.injEq, Prod.mk.injEq] at he
      obtain ⟨_, rfl⟩ := he
      exact ⟨⟨hp, rfl, Nat.le_refl _⟩, fun h => by simp [Md.eats] at h⟩
  | n + 1, .eitherL h0, p, q, h, hp, he => by
    have ih := run_less s n
    simp only [run] at he
    split at he
    · rename_i hi
      split at he
      · cases he
      · rename_i q1 hn
        obtain ⟨a1, a2⟩ := next_less hp (is_some hi) hn
        split at he
        · cases he
        · rename_i b r hr
          obtain ⟨b1, b2⟩ := ih _ _ _ _ a1.ok hr
          obtain ⟨c1, c2⟩ := ih _ _ _ _ b1.ok he
          exact ⟨a1.trans (b1.trans c1), fun h => by simp [Md.eats] at h⟩
    · simp only [Except.ok.injEq, Prod.mk.injEq] at he
      obtain ⟨_, rfl⟩ := he
      exact ⟨⟨hp, rfl, Nat.le_refl _⟩, fun h => by simp [Md.eats] at h⟩
end CM
end Go.Proofs.YtcjcflmnghhbaaaGreat
