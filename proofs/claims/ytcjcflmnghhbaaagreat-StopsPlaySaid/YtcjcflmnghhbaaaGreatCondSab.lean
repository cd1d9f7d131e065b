/-
  The plain law of conditions: a number's text with a sign, a text's with a quote; of chapter 27; lists alone.
  Conditions: as each theorem states them.
-/
import Derived.Test.YtcjcflmnghhbaaaGreatCondMl
import Derived.Test.YtcjcflmnghhbaaaGreatCondJa
import Derived.Test.YtcjcflmnghhbaaaGreatConvU
import Derived.Deep.LoopGhost
namespace Go.Proofs.YtcjcflmnghhbaaaGreat
set_option linter.unusedVariables false
set_option linter.unusedSimpArgs false
namespace CM
theorem parse_num {s sgn : List UInt8} {b b2 b3 e : Nat} {N : Int} (h1 : nextS s 0 = .ok (⟨1, 0, 0, lineW⟩, 4)) (h2 : nextS s 4 = .ok (⟨4, b, 0, sgn⟩, b2)) (h3 : nextS s b2 = .ok (⟨2, b3, N, []⟩, e)) (h4 : nextS s e = .ok (⟨0, e, 0, []⟩, e)) (hl : s.length ≤ 4096) :
    parseS s = .ok (fun _ now => signOf sgn now.line N) := by
  unfold parseS
  rw [if_neg (by omega), h1]
  simp only
  rw [show fuel s = (3 * s.length + 2) + 1 + 1 + 1 + 1 from rfl]
  simp [run, atomS, numberS, Ps.take, Ps.next, h2, h3, h4, Pc.is, flagOf, numOf, notW, lineW, changedW, substW, silentW, quitW, againW, failedW, andW, orW]
theorem parse_txt {s t : List UInt8} {b b2 e : Nat} (h1 : nextS s 0 = .ok (⟨1, 0, 0, holdW⟩, 4)) (h2 : nextS s 4 = .ok (⟨1, 5, 0, isW⟩, b)) (h3 : nextS s b = .ok (⟨3, b2, 0, t⟩, e)) (h4 : nextS s e = .ok (⟨0, e, 0, []⟩, e)) (hl : s.length ≤ 4096) :
    parseS s = .ok (fun _ now => now.hold == t) := by
  unfold parseS
  rw [if_neg (by omega), h1]
  simp only
  rw [show fuel s = (3 * s.length + 2) + 1 + 1 + 1 + 1 from rfl]
  simp [run, atomS, textS, Ps.take, Ps.next, h2, h3, h4, Pc.is, flagOf, numOf, txtOf, notW, lineW, pcW, exitW, waitsW, holdW, patternW, isW, hasW, changedW, substW, silentW, quitW, againW, failedW, andW, orW]
theorem parse_has {s t : List UInt8} {b b2 e : Nat} (h1 : nextS s 0 = .ok (⟨1, 0, 0, holdW⟩, 4)) (h2 : nextS s 4 = .ok (⟨1, 5, 0, hasW⟩, b)) (h3 : nextS s b = .ok (⟨3, b2, 0, t⟩, e)) (h4 : nextS s e = .ok (⟨0, e, 0, []⟩, e)) (hl : s.length ≤ 4096) :
    parseS s = .ok (fun _ now => hasS now.hold t) := by
  unfold parseS
  rw [if_neg (by omega), h1]
  simp only
  rw [show fuel s = (3 * s.length + 2) + 1 + 1 + 1 + 1 from rfl]
  simp [run, atomS, textS, Ps.take, Ps.next, h2, h3, h4, Pc.is, flagOf, numOf, txtOf, notW, lineW, pcW, exitW, waitsW, holdW, patternW, isW, hasW, changedW, substW, silentW, quitW, againW, failedW, andW, orW]
theorem next_stop (s : List UInt8) : nextS s s.length = .ok (⟨0, s.length, 0, []⟩, s.length) := by
  have : skip s s.length = s.length := by simp [skip]
  unfold nextS
  rw [this, List.drop_length]
  rfl
theorem takeWhile_dig : ∀ {d : List UInt8} (hd : ∀ x ∈ d, dig x = true), d.takeWhile dig = d
  | [], _ => rfl
  | c :: r, h => by rw [List.takeWhile_cons, if_pos (h c (by simp)), takeWhile_dig (fun x hx => h x (by simp [hx]))]
theorem dig_blank {c : UInt8} (h : dig c = true) : blank c = false ∧ low c = false ∧ c ≠ 34 := by
  simp only [dig, Bool.and_eq_true, decide_eq_true_eq] at h
  refine ⟨?_, ?_, ?_⟩
  · simp only [blank, beq_eq_false_iff_ne, ne_eq]; rintro rfl; revert h; decide
  · simp only [low, Bool.and_eq_false_iff, decide_eq_false_iff_not]; left; omega
  · rintro rfl; revert h; decide
theorem next_num {s : List UInt8} {a k : Nat} {c : UInt8} {r : List UInt8} (hs : s.drop a = List.replicate k 32 ++ (c :: r)) (ha : a ≤ s.length) (hd : ∀ x ∈ c :: r, dig x = true) (hN : valD (c :: r) ≤ 2147483648) :
    nextS s a = .ok (⟨2, a + k, valD (c :: r), []⟩, s.length) := by
  obtain ⟨n1, n2, n3⟩ := dig_blank (hd c (by simp))
  have hsk : skip s a = a + k := by
    unfold skip
    rw [hs, List.takeWhile_append_of_pos (by intro x hx; rw [List.eq_of_mem_replicate hx]; rfl)]
    simp [List.takeWhile_cons, n1]
  have hdr : s.drop (a + k) = c :: r := by
    rw [← List.drop_drop, hs]; simp
  have hlen : s.length = a + k + (c :: r).length := by
    have := congrArg List.length hs
    simp only [List.length_drop, List.length_append, List.length_replicate] at this
    omega
  unfold nextS
  rw [hsk, hdr]
  have hnum : numS s ((a + k : Nat) : Int) 2147483648 = (valD (c :: r), ((a + k : Nat) : Int) + (c :: r).length, 0) := by
    unfold numS
    rw [if_neg (by omega), show (((a + k : Nat) : Int)).toNat = a + k by omega, hdr]
    simp only [takeWhile_dig hd]
    rw [if_neg (by simp), if_neg (by omega)]
  unfold pieceS
  simp only [n2, hd c (by simp), if_true, Bool.false_eq_true, if_false, hnum]
  congr 2
  rw [hlen]; omega
/-- the six texts -/
def sgA : List (List UInt8) := [[60], [32, 61, 32], [32, 62], [60, 61], [62, 61, 32], [33, 61]]
theorem next_line (A d : List UInt8) (hA : A ∈ sgA) : nextS (lineW ++ A ++ d) 0 = .ok (⟨1, 0, 0, lineW⟩, 4) := by
  simp only [sgA, List.mem_cons, List.not_mem_nil, or_false] at hA
  rcases hA with rfl | rfl | rfl | rfl | rfl | rfl <;> rfl
theorem num_at {A sgn : List UInt8} {c : UInt8} {r : List UInt8} {b m k : Nat} (hA : A ∈ sgA) (h2 : nextS (lineW ++ A ++ (c :: r)) 4 = .ok (⟨4, b, 0, sgn⟩, m)) (hm : (lineW ++ A ++ (c :: r)).drop m = List.replicate k 32 ++ (c :: r))
    (hml : m ≤ 4 + A.length) (hd : ∀ x ∈ c :: r, dig x = true) (hN : valD (c :: r) ≤ 2147483648) (hl : r.length ≤ 100) :
    parseS (lineW ++ A ++ (c :: r)) = .ok (fun _ now => signOf sgn now.line (valD (c :: r))) := by
  have hAl : A.length ≤ 3 := by
    simp only [sgA, List.mem_cons, List.not_mem_nil, or_false] at hA
    rcases hA with rfl | rfl | rfl | rfl | rfl | rfl <;> simp
  have hlen : (lineW ++ A ++ (c :: r)).length = 4 + A.length + r.length + 1 := by simp; omega
  exact parse_num (next_line A _ hA) h2 (next_num hm (by omega) hd hN) (next_stop _) (by omega)
theorem parse_sg {c : UInt8} {r : List UInt8} (hd : ∀ x ∈ c :: r, dig x = true) (hN : valD (c :: r) ≤ 2147483648) (hl : r.length ≤ 100) :
    parseS (lineW ++ [60] ++ (c :: r)) = .ok (fun _ now => signOf [60] now.line (valD (c :: r)))
    ∧ parseS (lineW ++ [32, 61, 32] ++ (c :: r)) = .ok (fun _ now => signOf [61] now.line (valD (c :: r)))
    ∧ parseS (lineW ++ [32, 62] ++ (c :: r)) = .ok (fun _ now => signOf [62] now.line (valD (c :: r)))
    ∧ parseS (lineW ++ [60, 61] ++ (c :: r)) = .ok (fun _ now => signOf [60, 61] now.line (valD (c :: r)))
    ∧ parseS (lineW ++ [62, 61, 32] ++ (c :: r)) = .ok (fun _ now => signOf [62, 61] now.line (valD (c :: r)))
    ∧ parseS (lineW ++ [33, 61] ++ (c :: r)) = .ok (fun _ now => signOf [33, 61] now.line (valD (c :: r))) := by
  have hc : c ≠ 61 := by
    rintro rfl
    have := hd 61 (by simp)
    revert this; decide
  refine ⟨num_at (b := 4) (m := 5) (k := 0) (by simp [sgA]) ?_ rfl (by simp) hd hN hl, num_at (b := 5) (m := 6) (k := 1) (by simp [sgA]) rfl rfl (by simp) hd hN hl, num_at (b := 5) (m := 6) (k := 0) (by simp [sgA]) ?_ rfl (by simp) hd hN hl,
    num_at (b := 4) (m := 6) (k := 0) (by simp [sgA]) rfl rfl (by simp) hd hN hl, num_at (b := 4) (m := 6) (k := 1) (by simp [sgA]) rfl rfl (by simp) hd hN hl, num_at (b := 4) (m := 6) (k := 0) (by simp [sgA]) rfl rfl (by simp) hd hN hl⟩
  · have hs : signS (60 :: c :: r) = [60] := by
      unfold signS
      split <;> simp_all
    show (if signS (60 :: c :: r) = [] then _ else Except.ok ((⟨4, 4, 0, signS (60 :: c :: r)⟩ : Pc), 4 + (signS (60 :: c :: r)).length) : Except Er (Pc × Nat)) = _
    rw [hs]; rfl
  · have hs : signS (62 :: c :: r) = [62] := by
      unfold signS
      split <;> simp_all
    show (if signS (62 :: c :: r) = [] then _ else Except.ok ((⟨4, 5, 0, signS (62 :: c :: r)⟩ : Pc), 5 + (signS (62 :: c :: r)).length) : Except Er (Pc × Nat)) = _
    rw [hs]; rfl
end CM
end Go.Proofs.YtcjcflmnghhbaaaGreat
/-
  The digits of a number, lists alone; of chapter 27.
  Conditions: as each theorem states them.
-/
namespace Go.Proofs.YtcjcflmnghhbaaaGreat
set_option linter.unusedVariables false
set_option linter.unusedSimpArgs false
namespace CM
def dgt (n : Nat) : UInt8 := UInt8.ofNat (48 + n % 10)
def dgs (n : Nat) : List UInt8 := if n < 10 then [dgt n] else dgs (n / 10) ++ [dgt n]
termination_by n
theorem dgs_end {n : Nat} (h : n / 10 = 0) : dgs n = [dgt n] := by rw [dgs, if_pos (by omega)]
theorem dgs_more {n : Nat} (h : ¬ n / 10 = 0) : dgs n = dgs (n / 10) ++ [dgt n] := by rw [dgs, if_neg (by omega)]
theorem dgt_nat (n : Nat) : (dgt n).toNat = 48 + n % 10 := by
  unfold dgt
  rw [UInt8.toNat_ofNat']
  omega
theorem dgt_dig (n : Nat) : dig (dgt n) = true := by
  simp only [dig, dgt_nat, Bool.and_eq_true, decide_eq_true_eq]
  omega
theorem dgs_dig (n : Nat) : ∀ x ∈ dgs n, dig x = true := by
  induction n using dgs.induct with
  | case1 n h => rw [dgs, if_pos h]; intro x hx; simp at hx; subst hx; exact dgt_dig n
  | case2 n h ih =>
    rw [dgs, if_neg h]
    intro x hx
    rcases List.mem_append.1 hx with hx | hx
    · exact ih x hx
    · simp at hx; subst hx; exact dgt_dig n
theorem dgs_val (n : Nat) : valD (dgs n) = n := by
  induction n using dgs.induct with
  | case1 n h =>
    rw [dgs, if_pos h]
    show (0 : Int) * 10 + (((dgt n).toNat : Int) - 48) = n
    rw [dgt_nat]; omega
  | case2 n h ih =>
    rw [dgs, if_neg h, valD_snoc, ih, dgt_nat]
    omega
theorem dgs_ne (n : Nat) : dgs n ≠ [] := by
  rw [dgs]; split <;> simp
theorem dgs_len (k : Nat) : ∀ n, n < 10 ^ (k + 1) → (dgs n).length ≤ k + 1 := by
  induction k with
  | zero => intro n h; rw [dgs, if_pos (by simpa using h)]; simp
  | succ k ih =>
    intro n h
    rw [dgs]
    split
    · simp
    · have := ih (n / 10) (by rw [Nat.pow_succ] at h; omega)
      simp only [List.length_append, List.length_cons, List.length_nil]; omega
/-- the six conditions on the line, at a number's digits -/
theorem parse_signs (N : Nat) (hN : N < 65536) : ∀ A ∈ sgA, ∃ sg, A.filter (fun x => x != 32) = sg ∧ parseS (lineW ++ A ++ dgs N) = .ok (fun _ now => signOf sg now.line N) := by
  obtain ⟨c, r, e⟩ : ∃ c r, dgs N = c :: r := by
    cases h : dgs N with
    | nil => exact absurd h (dgs_ne N)
    | cons c r => exact ⟨c, r, rfl⟩
  have hv := dgs_val N
  have hd := dgs_dig N
  have hl := dgs_len 4 N (by omega)
  rw [e] at hv hd hl
  simp only [List.length_cons] at hl
  have := parse_sg hd (by omega) (by omega)
  rw [hv] at this
  obtain ⟨p1, p2, p3, p4, p5, p6⟩ := this
  rw [e]
  intro A hA
  simp only [sgA, List.mem_cons, List.not_mem_nil, or_false] at hA
  rcases hA with rfl | rfl | rfl | rfl | rfl | rfl
  · exact ⟨_, rfl, p1⟩
  · exact ⟨_, rfl, p2⟩
  · exact ⟨_, rfl, p3⟩
  · exact ⟨_, rfl, p4⟩
  · exact ⟨_, rfl, p5⟩
  · exact ⟨_, rfl, p6⟩
theorem sign_facts (x n : Int) : signOf [60] x n = decide (x < n) ∧ signOf [61] x n = (x == n) ∧ signOf [62] x n = decide (n < x) ∧ signOf [60, 61] x n = !decide (n < x) ∧ signOf [62, 61] x n = !decide (x < n) ∧ signOf [33, 61] x n = !(x == n) := by
  rcases Int.lt_trichotomy x n with h | h | h
  · have a : (x == n) = false := by simp; omega
    have b : decide (x < n) = true := by simpa using h
    have c : decide (n < x) = false := by simp; omega
    simp [signOf, a, b, c]
  · have a : (x == n) = true := by simpa using h
    have b : decide (x < n) = false := by simp; omega
    have c : decide (n < x) = false := by simp; omega
    simp [signOf, a, b, c]
  · have a : (x == n) = false := by simp; omega
    have b : decide (x < n) = false := by simp; omega
    have c : decide (n < x) = true := by simpa using h
    simp [signOf, a, b, c]
theorem changed_hold : parseS [104, 111, 108, 100, 32, 99, 104, 97, 110, 103, 101, 100] = .ok (fun was now => !(was.hold == now.hold)) := by kernel_rfl
end CM
end Go.Proofs.YtcjcflmnghhbaaaGreat
/-
  The digits of a number: the walk; of chapter 27.
  Conditions: as each theorem states them.
-/
namespace Go.Proofs.YtcjcflmnghhbaaaGreat
open Go.RowKit
set_option linter.unusedVariables false
set_option linter.unusedSimpArgs false
theorem src_own {w : World} {base e n : Nat} {v : Value} {xs : List Value} (h : w.ownsRow base e 1 v n xs) : SrcAt w v n xs := by
  obtain ⟨a, c, rfl⟩ := own_slice h
  refine ⟨a, c, rfl, fun ea => ?_, fun ad ea j u hj => ?_⟩
  · subst ea
    rcases h.2 with ⟨_, h0⟩ | ⟨g, cap, cur, he, _⟩
    · exact h0
    · cases he
  · subst ea
    have hg : (Value.slice (some ad) n c).ownBlock = some ad.block := rfl
    rcases h.2 with ⟨he, _⟩ | ⟨g, cap, cur, he, _⟩
    · cases he
    · cases he
      exact h.cells hg j u hj
theorem own_one (w : World) (base e : Nat) (u : Value) (hb : base ≤ w.heap.size) : (w.alloc (.cells #[u] e)).ownsRow base e 1 (.slice (some ⟨w.heap.size, 0, none⟩) 1 1) 1 [u] :=
  ⟨rfl, .inr ⟨w.heap.size, 1, #[u], rfl, hb, heap_alloc_new w _, Nat.le_refl _, by decide, rfl, rfl⟩⟩
end Go.Proofs.YtcjcflmnghhbaaaGreat
