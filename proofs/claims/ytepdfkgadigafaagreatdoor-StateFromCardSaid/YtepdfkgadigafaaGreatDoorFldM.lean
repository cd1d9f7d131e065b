/-
  What the fields of a state are, and how they are read: lists alone, no program in sight.
  Conditions: as each theorem states them.
-/
import Derived.Test.YtepdfkgadigafaaGreatDoorMem
import Derived.Test.YtepdfkgadigafaaGreatDoorShA
import Derived.Test.YtepdfkgadigafaaGreatDoorUnqD
import Derived.Lib.ItoaLen
import Derived.Lib.ItoaMem
import Derived.Lib.AtoiAllCases
namespace Go.Proofs.YtepdfkgadigafaaGreatDoor.FM
open Go.Proofs.YtepdfkgadigafaaGreatDoor Go.Proofs.YtepdfkgadigafaaGreatDoor.SH
set_option linter.unusedVariables false
set_option linter.unusedSimpArgs false
abbrev Bytes := List UInt8
def bitN (b : Bool) : Int := if b then 1 else 0
def scNums (c : Sc) : List Int := [bitN c.nl, c.line, bitN c.subst, c.last, c.next, c.opn, c.cur, c.missing, bitN c.short, bitN c.pshort, c.phase, c.pc, c.exit, c.stop, c.err, bitN c.silent, bitN c.quit, bitN c.again]
/-- numbers, with a blank between -/
def numsT : List Int → Bytes
  | [] => []
  | [n] => Lib.itoa n
  | n :: m :: r => Lib.itoa n ++ 32 :: numsT (m :: r)
def bitB (b : Bool) : UInt8 := if b then 49 else 48
def bitsT (l : List Bool) : Bytes := l.map bitB
def waitT (w : Int × Bytes) : Bytes := Lib.itoa w.1 ++ quoteS w.2
def waitsT (l : List (Int × Bytes)) : Bytes := l.flatMap waitT
def fileT (f : Bytes × Bytes) : Bytes := quoteS f.1 ++ quoteS f.2
def filesT (l : List (Bytes × Bytes)) : Bytes := l.flatMap fileT
/-- the fields of a state -/
def fieldsS (V : StV) : List Bytes := [V.pat, V.hold, V.rest, V.out, V.place, numsT (scNums V.sc), bitsT V.active, bitsT V.lacks, waitsT V.waits, filesT V.files]
/-- a reader: what is left, and whether something was wrong -/
abbrev Rd := Bytes × Bool
def isOk : Lib.NumEnd Int → Bool | .ok _ => true | _ => false
def upto (d : UInt8) (s : Bytes) : Bytes := s.takeWhile (· != d)
def behind (d : UInt8) (s : Bytes) : Bytes := s.dropWhile (· != d)
def numE (d : UInt8) (r : Rd) : Rd := (behind d r.1, r.2 || !isOk (Lib.atoiAll (upto d r.1)))
def numV (d : UInt8) (r : Rd) : Int := match Lib.atoiAll (upto d r.1) with | .ok v => v | .syntax => 0 | .range => Lib.atoiSat (upto d r.1)
def nextE (r : Rd) : Rd := ((numE 32 r).1.drop 1, (numE 32 r).2)
def it : Nat → Rd → Rd
  | 0, r => r
  | k + 1, r => nextE (it k r)
def nv (k : Nat) (r : Rd) : Int := numV 32 (it k r)
def quoE (r : Rd) : Rd := if (unquoteS r.1 0).2.2 = 0 then (r.1.drop (unquoteS r.1 0).2.1.toNat, r.2) else (r.1, true)
def quoV (r : Rd) : Bytes := if (unquoteS r.1 0).2.2 = 0 then (unquoteS r.1 0).1 else []
def waitR (r : Rd) : Rd := quoE (numE 34 r)
def waitV (r : Rd) : Int × Bytes := (numV 34 r, quoV (numE 34 r))
def fileR (r : Rd) : Rd := quoE (quoE r)
def fileV (r : Rd) : Bytes × Bytes := (quoV r, quoV (quoE r))
/-- rounds, as long as there is something left and nothing was wrong -/
def rounds {α : Type} (R : Rd → Rd) (V : Rd → α) : Nat → Rd → List α → Rd × List α
  | 0, r, acc => (r, acc)
  | n + 1, r, acc => if r.1 = [] ∨ r.2 = true then (r, acc) else rounds R V n (R r) (acc ++ [V r])
def mu (r : Rd) : Nat := if r.2 then 0 else r.1.length
def scR (r : Rd) : Sc := ⟨nv 0 r == 1, nv 1 r, nv 2 r == 1, nv 3 r, nv 4 r, nv 5 r, nv 6 r, nv 7 r, nv 8 r == 1, nv 9 r == 1, nv 10 r, nv 11 r, nv 12 r, nv 13 r, nv 14 r, nv 15 r == 1, nv 16 r == 1, nv 17 r == 1⟩
def truths (b : Bytes) : List Bool := b.map (· == 49)
def wsR (b : Bytes) : Rd × List (Int × Bytes) := rounds waitR waitV (b.length + 1) (b, false) []
def fsR (b : Bytes) : Rd × List (Bytes × Bytes) := rounds fileR fileV (b.length + 1) (b, false) []
/-- the state that ten texts say, right or wrong -/
def rawV (a b c d e n x y w f : Bytes) : StV := ⟨scR (n, false), a, b, c, d, e, truths x, truths y, (wsR w).2, (fsR f).2⟩
def rawBad (n w f : Bytes) : Bool := (it 18 (n, false)).2 || (wsR w).1.2 || (fsR f).1.2
/-- the state of fields, if they are one's -/
def fromS : List Bytes → Option StV
  | [a, b, c, d, e, n, x, y, w, f] => if rawBad n w f = false ∧ fieldsS (rawV a b c d e n x y w f) = [a, b, c, d, e, n, x, y, w, f] then some (rawV a b c d e n x y w f) else none
  | _ => none
theorem from_sound {l : List Bytes} {V : StV} (h : fromS l = some V) : fieldsS V = l := by
  unfold fromS at h
  split at h
  · split at h
    · rename_i hc; injection h with h; rw [← h]; exact hc.2
    · cases h
  · cases h
/-! digits -/
theorem pu_cons (acc : Nat) (c : UInt8) (l : Bytes) : Lib.parseUint10 acc (c :: l) = if 48 ≤ c.toNat ∧ c.toNat ≤ 57 then (if 1844674407370955162 ≤ acc then .range else if 18446744073709551616 ≤ acc * 10 + (c.toNat - 48) then .range else Lib.parseUint10 (acc * 10 + (c.toNat - 48)) l) else .syntax := by
  rw [Lib.parseUint10]
theorem parse_app : ∀ (l r : Bytes) (acc : Nat), Lib.parseUint10 acc (l ++ r) = match Lib.parseUint10 acc l with | .ok m => Lib.parseUint10 m r | .syntax => .syntax | .range => .range
  | [], r, acc => rfl
  | c :: l, r, acc => by
    rw [List.cons_append, pu_cons, pu_cons]
    split
    · split
      · rfl
      · split
        · rfl
        · exact parse_app l r _
    · rfl
def isDg (c : UInt8) : Prop := 48 ≤ c.toNat ∧ c.toNat ≤ 57
theorem dg_dig {k : Nat} (h : k < 10) : (UInt8.ofNat (48 + k)).toNat = 48 + k := by simp; omega
theorem dec_dg : ∀ (u : Nat), ∀ c ∈ Lib.decDigits u, isDg c := by
  intro u
  induction u using Nat.strongRecOn with
  | ind u ih =>
    intro c hc
    rw [Lib.decDigits] at hc
    split at hc
    · rename_i h
      simp only [List.mem_singleton] at hc
      subst hc
      unfold isDg; rw [dg_dig h]; omega
    · rename_i h
      rcases List.mem_append.1 hc with hc | hc
      · exact ih (u / 10) (by omega) c hc
      · simp only [List.mem_singleton] at hc
        subst hc
        unfold isDg; rw [dg_dig (Nat.mod_lt _ (by omega))]; omega
theorem dec_ne (u : Nat) : Lib.decDigits u ≠ [] := by
  rw [Lib.decDigits]; split <;> simp
theorem parse_dec : ∀ (u : Nat), u < 18446744073709551616 → Lib.parseUint10 0 (Lib.decDigits u) = .ok u := by
  intro u
  induction u using Nat.strongRecOn with
  | ind u ih =>
    intro hu
    rw [Lib.decDigits]
    split
    · rename_i h
      unfold Lib.parseUint10
      rw [dg_dig h, if_pos (by omega), if_neg (by omega), if_neg (by omega)]
      unfold Lib.parseUint10
      congr 1; omega
    · rename_i h
      rw [parse_app, ih (u / 10) (by omega) (by omega)]
      simp only
      unfold Lib.parseUint10
      rw [dg_dig (Nat.mod_lt _ (by omega)), if_pos (by omega), if_neg (by omega), if_neg (by omega)]
      unfold Lib.parseUint10
      congr 1; omega
def I64 (n : Int) : Prop := -9223372036854775808 ≤ n ∧ n ≤ 9223372036854775807
theorem itoa_cases (n : Int) : (0 ≤ n ∧ Lib.itoa n = Lib.decDigits n.toNat) ∨ (n < 0 ∧ Lib.itoa n = 45 :: Lib.decDigits n.natAbs) := by
  unfold Lib.itoa; split
  · exact .inr ⟨by omega, rfl⟩
  · exact .inl ⟨by omega, rfl⟩
theorem atoi_itoa {n : Int} (h : I64 n) : Lib.atoiAll (Lib.itoa n) = .ok n := by
  obtain ⟨h1, h2⟩ := h
  rcases itoa_cases n with ⟨h0, e⟩ | ⟨h0, e⟩
  · rw [e]
    have hp := parse_dec n.toNat (by omega)
    have hne := dec_ne n.toNat
    cases hL : Lib.decDigits n.toNat with
    | nil => exact absurd hL hne
    | cons c r =>
      have hd := dec_dg n.toNat c (by rw [hL]; simp)
      unfold isDg at hd
      rw [hL] at hp
      unfold Lib.atoiAll
      simp only
      rw [if_neg (by omega)]
      unfold Lib.parseMag
      rw [if_neg (by simp), hp]
      simp only
      rw [if_neg (by omega), if_neg (by omega), if_neg (by omega)]
      congr 1; omega
  · rw [e]
    have hp := parse_dec n.natAbs (by omega)
    have hne := dec_ne n.natAbs
    unfold Lib.atoiAll
    simp only
    rw [if_pos (by decide)]
    unfold Lib.parseMag
    rw [if_neg hne, hp]
    simp only
    rw [if_neg (by simp), if_neg (by omega), if_pos (by decide)]
    congr 1; omega
theorem itoa_ch {n : Int} : ∀ c ∈ Lib.itoa n, isDg c ∨ c = 45 := by
  intro c hc
  rcases itoa_cases n with ⟨_, e⟩ | ⟨_, e⟩
  · rw [e] at hc; exact .inl (dec_dg _ c hc)
  · rw [e] at hc
    rcases List.mem_cons.1 hc with rfl | hc
    · exact .inr rfl
    · exact .inl (dec_dg _ c hc)
theorem upto_all {d : UInt8} : ∀ {l : Bytes} (r : Bytes), (∀ c ∈ l, c ≠ d) → upto d (l ++ d :: r) = l ∧ behind d (l ++ d :: r) = d :: r
  | [], r, _ => by unfold upto behind; simp
  | c :: l, r, h => by
    have h1 := upto_all (d := d) (l := l) r (fun x hx => h x (by simp [hx]))
    have h2 : (c != d) = true := by simpa using h c (by simp)
    unfold upto behind at *
    rw [List.cons_append, List.takeWhile_cons, List.dropWhile_cons]
    rw [if_pos h2, if_pos h2, h1.1, h1.2]
    exact ⟨rfl, rfl⟩
theorem upto_end {d : UInt8} : ∀ {l : Bytes}, (∀ c ∈ l, c ≠ d) → upto d l = l ∧ behind d l = []
  | [], _ => by unfold upto behind; simp
  | c :: l, h => by
    have h1 := upto_end (d := d) (l := l) (fun x hx => h x (by simp [hx]))
    have h2 : (c != d) = true := by simpa using h c (by simp)
    unfold upto behind at *
    rw [List.takeWhile_cons, List.dropWhile_cons, if_pos h2, if_pos h2, h1.1, h1.2]
    exact ⟨rfl, rfl⟩
theorem itoa_no {n : Int} {d : UInt8} (h1 : ¬ isDg d) (h2 : d ≠ 45) : ∀ c ∈ Lib.itoa n, c ≠ d := fun c hc e => by
  subst e
  rcases itoa_ch c hc with h | h
  · exact h1 h
  · exact h2 h
theorem num_at {n : Int} (hn : I64 n) {d : UInt8} (h1 : ¬ isDg d) (h2 : d ≠ 45) (r : Bytes) (b : Bool) : numE d (Lib.itoa n ++ d :: r, b) = (d :: r, b) ∧ numV d (Lib.itoa n ++ d :: r, b) = n := by
  obtain ⟨e1, e2⟩ := upto_all (l := Lib.itoa n) r (itoa_no h1 h2)
  unfold numE numV
  simp only [e1, e2, atoi_itoa hn]
  exact ⟨by simp [isOk], by first | rfl | trivial⟩
theorem num_end {n : Int} (hn : I64 n) {d : UInt8} (h1 : ¬ isDg d) (h2 : d ≠ 45) (b : Bool) : numE d (Lib.itoa n, b) = ([], b) ∧ numV d (Lib.itoa n, b) = n := by
  obtain ⟨e1, e2⟩ := upto_end (l := Lib.itoa n) (itoa_no h1 h2)
  unfold numE numV
  simp only [e1, e2, atoi_itoa hn]
  exact ⟨by simp [isOk], by first | rfl | trivial⟩
theorem next_nums {n : Int} (hn : I64 n) : ∀ (r : List Int) (b : Bool), nextE (numsT (n :: r), b) = (numsT r, b) ∧ numV 32 (numsT (n :: r), b) = n
  | [], b => by
    obtain ⟨e1, e2⟩ := num_end hn (d := 32) (by unfold isDg; decide) (by decide) b
    refine ⟨?_, e2⟩
    unfold nextE
    rw [show numsT [n] = Lib.itoa n from rfl, e1]
    rfl
  | m :: r, b => by
    obtain ⟨e1, e2⟩ := num_at hn (d := 32) (by unfold isDg; decide) (by decide) (numsT (m :: r)) b
    refine ⟨?_, e2⟩
    unfold nextE
    rw [show numsT (n :: m :: r) = Lib.itoa n ++ 32 :: numsT (m :: r) from rfl, e1]
    rfl
theorem it_nums : ∀ (k : Nat) (l : List Int), (∀ n ∈ l, I64 n) → k ≤ l.length → it k (numsT l, false) = (numsT (l.drop k), false)
  | 0, l, _, _ => by simp [it]
  | k + 1, l, h, hk => by
    have hlt : k < l.length := by omega
    rw [it, it_nums k l h (by omega), List.drop_eq_getElem_cons hlt]
    exact (next_nums (h _ (List.getElem_mem hlt)) _ _).1
theorem nv_nums {k : Nat} {l : List Int} (h : ∀ n ∈ l, I64 n) (hk : k < l.length) : nv k (numsT l, false) = l[k] := by
  unfold nv
  rw [it_nums k l h (by omega), List.drop_eq_getElem_cons hk]
  exact (next_nums (h _ (List.getElem_mem hk)) _ _).2
/-- what is right in a state's numbers -/
structure ScI (c : Sc) : Prop where
  line : I64 c.line
  last : I64 c.last
  next : I64 c.next
  opn : I64 c.opn
  cur : I64 c.cur
  missing : I64 c.missing
  phase : I64 c.phase
  pc : I64 c.pc
  exit : I64 c.exit
  stop : I64 c.stop
  err : I64 c.err
theorem bit64 (b : Bool) : I64 (bitN b) := by cases b <;> (unfold I64 bitN; simp)
theorem bit_is (b : Bool) : (bitN b == 1) = b := by cases b <;> rfl
theorem nums64 {c : Sc} (h : ScI c) : ∀ n ∈ scNums c, I64 n := by
  intro n hn
  simp only [scNums, List.mem_cons, List.mem_nil_iff, or_false] at hn
  rcases hn with rfl | rfl | rfl | rfl | rfl | rfl | rfl | rfl | rfl | rfl | rfl | rfl | rfl | rfl | rfl | rfl | rfl | rfl
  all_goals first | exact bit64 _ | exact h.line | exact h.last | exact h.next | exact h.opn | exact h.cur | exact h.missing | exact h.phase | exact h.pc | exact h.exit | exact h.stop | exact h.err
theorem sc_back {c : Sc} (h : ScI c) : scR (numsT (scNums c), false) = c ∧ (it 18 (numsT (scNums c), false)).2 = false := by
  have h64 := nums64 h
  have hl : (scNums c).length = 18 := rfl
  refine ⟨?_, by rw [it_nums 18 _ h64 (by rw [hl]; omega)]⟩
  have g := fun k (hk : k < 18) => nv_nums (k := k) h64 (by rw [hl]; exact hk)
  unfold scR
  rw [g 0 (by omega), g 1 (by omega), g 2 (by omega), g 3 (by omega), g 4 (by omega), g 5 (by omega), g 6 (by omega), g 7 (by omega), g 8 (by omega), g 9 (by omega), g 10 (by omega), g 11 (by omega), g 12 (by omega), g 13 (by omega), g 14 (by omega), g 15 (by omega), g 16 (by omega), g 17 (by omega)]
  simp only [scNums, List.getElem_cons_zero, List.getElem_cons_succ, bit_is]
theorem quo_at (l r : Bytes) (b : Bool) : quoE (quoteS l ++ r, b) = (r, b) ∧ quoV (quoteS l ++ r, b) = l := by
  have e : unquoteS (quoteS l ++ r) 0 = (l, ((1 + (l.flatMap quoteB).length + 1 : Nat) : Int), 0) := by
    unfold unquoteS quoteS
    rw [if_neg (by simp; omega)]
    have := unq_full l [] 1 r
    simpa using this
  unfold quoE quoV
  simp only [e, if_true]
  refine ⟨?_, by first | rfl | trivial⟩
  rw [Int.toNat_natCast]
  unfold quoteS
  simp [List.drop_append]
theorem wait_at {n : Int} (hn : I64 n) (l r : Bytes) : waitR (waitT (n, l) ++ r, false) = (r, false) ∧ waitV (waitT (n, l) ++ r, false) = (n, l) := by
  have e : waitT (n, l) ++ r = Lib.itoa n ++ 34 :: (l.flatMap quoteB ++ [34] ++ r) := by unfold waitT quoteS; simp
  obtain ⟨e1, e2⟩ := num_at hn (d := 34) (by unfold isDg; decide) (by decide) (l.flatMap quoteB ++ [34] ++ r) false
  unfold waitR waitV
  rw [e, e1, e2]
  exact ⟨(quo_at l r false).1, by rw [show (34 :: (l.flatMap quoteB ++ [34] ++ r)) = quoteS l ++ r by simp [quoteS], (quo_at l r false).2]⟩
theorem file_at (l m r : Bytes) : fileR (fileT (l, m) ++ r, false) = (r, false) ∧ fileV (fileT (l, m) ++ r, false) = (l, m) := by
  unfold fileR fileV fileT
  simp only
  rw [List.append_assoc, (quo_at l (quoteS m ++ r) false).1, (quo_at l (quoteS m ++ r) false).2, (quo_at m r false).1, (quo_at m r false).2]
  exact ⟨rfl, rfl⟩
theorem rounds_all {α : Type} {R : Rd → Rd} {V : Rd → α} {T : α → Bytes} (h0 : ∀ x, T x ≠ []) (P : α → Prop) (h : ∀ x r, P x → R (T x ++ r, false) = (r, false) ∧ V (T x ++ r, false) = x) : ∀ (l : List α) (n : Nat) (acc : List α), (∀ x ∈ l, P x) → l.length ≤ n → rounds R V n (l.flatMap T, false) acc = (([], false), acc ++ l)
  | [], n, acc, _, _ => by cases n <;> simp [rounds]
  | x :: l, 0, acc, _, hn => by simp at hn
  | x :: l, n + 1, acc, hP, hn => by
    obtain ⟨e1, e2⟩ := h x (l.flatMap T) (hP x (by simp))
    rw [List.flatMap_cons, rounds, if_neg (by simp [h0 x]), e1, e2, rounds_all h0 P h l n _ (fun y hy => hP y (by simp [hy])) (by simpa using hn)]
    simp
theorem flat_ge {α : Type} {T : α → Bytes} (h0 : ∀ x, T x ≠ []) : ∀ l : List α, l.length ≤ (l.flatMap T).length
  | [] => by simp
  | x :: l => by
    have := flat_ge h0 l
    have h1 : 0 < (T x).length := by cases h : T x with | nil => exact absurd h (h0 x) | cons => simp
    rw [List.flatMap_cons, List.length_append, List.length_cons]; omega
theorem quo_ne (l : Bytes) : quoteS l ≠ [] := by unfold quoteS; simp
theorem wait_ne (x : Int × Bytes) : waitT x ≠ [] := by unfold waitT; simp [quo_ne]
theorem file_ne (x : Bytes × Bytes) : fileT x ≠ [] := by unfold fileT; simp [quo_ne]
theorem truths_back (l : List Bool) : truths (bitsT l) = l := by
  unfold truths bitsT; rw [List.map_map]
  refine (List.map_congr_left (g := id) ?_).trans (List.map_id l)
  intro b _; cases b <;> rfl
/-- the fields of a state say it -/
theorem from_fields (V : StV) (h : ScI V.sc) (hw : ∀ x ∈ V.waits, I64 x.1) : fromS (fieldsS V) = some V := by
  obtain ⟨h1, h2⟩ := sc_back h
  have h3 : wsR (waitsT V.waits) = (([], false), V.waits) := by
    have := rounds_all (R := waitR) (V := waitV) (T := waitT) wait_ne (fun x => I64 x.1) (fun x r hx => wait_at hx x.2 r) V.waits ((waitsT V.waits).length + 1) [] hw (by have := flat_ge wait_ne V.waits; unfold waitsT; omega)
    unfold wsR; exact this
  have h4 : fsR (filesT V.files) = (([], false), V.files) := by
    have := rounds_all (R := fileR) (V := fileV) (T := fileT) file_ne (fun _ => True) (fun x r _ => file_at x.1 x.2 r) V.files ((filesT V.files).length + 1) [] (fun _ _ => trivial) (by have := flat_ge file_ne V.files; unfold filesT; omega)
    unfold fsR; exact this
  have h5 : rawV V.pat V.hold V.rest V.out V.place (numsT (scNums V.sc)) (bitsT V.active) (bitsT V.lacks) (waitsT V.waits) (filesT V.files) = V := by
    unfold rawV; rw [h1, h3, h4, truths_back, truths_back]
  unfold fieldsS fromS
  simp only
  rw [h5, if_pos ⟨by unfold rawBad; rw [h2, h3, h4]; rfl, rfl⟩]
theorem fields_inj {V V' : StV} (h : ScI V.sc) (hw : ∀ x ∈ V.waits, I64 x.1) (h' : ScI V'.sc) (hw' : ∀ x ∈ V'.waits, I64 x.1) (e : fieldsS V = fieldsS V') : V = V' := by
  have h1 := from_fields V h hw
  rw [e, from_fields V' h' hw'] at h1
  injection h1 with h1
  exact h1.symm
/-! rounds and their end -/
theorem rounds_stop {α : Type} {R : Rd → Rd} {V : Rd → α} (n : Nat) (r : Rd) (acc : List α) (h : r.1 = [] ∨ r.2 = true) : rounds R V n r acc = (r, acc) := by
  cases n with
  | zero => rfl
  | succ n => rw [rounds, if_pos h]
theorem rounds_go {α : Type} {R : Rd → Rd} {V : Rd → α} {n : Nat} {r : Rd} {acc : List α} (h1 : r.1 ≠ []) (h2 : r.2 = false) : rounds R V (n + 1) r acc = rounds R V n (R r) (acc ++ [V r]) := by
  rw [rounds, if_neg (by simp [h1, h2])]
theorem behind_le (d : UInt8) (s : Bytes) : (behind d s).length ≤ s.length := by
  unfold behind; exact (List.dropWhile_suffix _).length_le
theorem upto_behind (d : UInt8) (s : Bytes) : upto d s ++ behind d s = s := List.takeWhile_append_dropWhile
end Go.Proofs.YtepdfkgadigafaaGreatDoor.FM
