/-
  Contracts of Num, of package digit and of its reference: both read the number that 'numS' reads, and leave the memory as it was.
  Conditions: as each theorem states them; none beyond.
-/
import Derived.Test.YtepdfkgadigafaaGreatDoorDigit
namespace Go.Proofs.YtepdfkgadigafaaGreatDoor
open Go.RowKit
set_option linter.unusedVariables false

/-! ### plain -/
def dig (c : UInt8) : Bool := decide (48 ≤ c.toNat) && decide (c.toNat ≤ 57)
def valD (l : List UInt8) : Int := l.foldl (fun v c => v * 10 + ((c.toNat : Int) - 48)) 0
theorem valD_snoc (l : List UInt8) (c : UInt8) : valD (l ++ [c]) = valD l * 10 + ((c.toNat : Int) - 48) := by simp [valD]
theorem fold_nonneg : ∀ (l : List UInt8) (v : Int), 0 ≤ v → (∀ c ∈ l, dig c = true) → 0 ≤ l.foldl (fun v c => v * 10 + ((c.toNat : Int) - 48)) v
  | [], v, hv, _ => hv
  | c :: l, v, hv, h => by
    have h2 := h c (by simp)
    simp [dig] at h2
    exact fold_nonneg l _ (by show 0 ≤ v * 10 + ((c.toNat : Int) - 48); omega) (fun d hd => h d (by simp [hd]))
theorem valD_nonneg (l : List UInt8) (h : ∀ c ∈ l, dig c = true) : 0 ≤ valD l := fold_nonneg l 0 (by omega) h
/-- the number at a place: a number, a place, an error's number -/
def numS (l : List UInt8) (at_ most : Int) : Int × Int × Int :=
  if at_ < 0 ∨ (l.length : Int) < at_ then (0, 0, 1)
  else
    let ds := (l.drop at_.toNat).takeWhile dig
    if ds.isEmpty then (0, 0, 9) else if most < valD ds then (0, 0, 3) else (valD ds, at_ + ds.length, 0)
theorem takeWhile_eq {α : Type} {p : α → Bool} : ∀ (l : List α) (k : Nat), k ≤ l.length → (∀ i (h : i < k) (h' : i < l.length), p l[i] = true) → (∀ h : k < l.length, p l[k] = false) → l.takeWhile p = l.take k
  | [], k, hk, _, _ => by simp
  | a :: l, 0, _, _, h2 => by
    have := h2 (by simp)
    simp at this
    simp [this]
  | a :: l, k + 1, hk, h1, h2 => by
    have h0 := h1 0 (by omega) (by simp)
    simp at h0
    rw [List.takeWhile_cons, if_pos h0, List.take_succ_cons, takeWhile_eq l k (by simpa using hk) (fun i h h' => by have := h1 (i + 1) (by omega) (by simpa using h'); simpa using this) (fun h => by have := h2 (by simpa using h); simpa using this)]
theorem take_digs {l : List UInt8} {k : Nat} (h1 : ∀ i (h : i < k) (h' : i < l.length), dig l[i] = true) : ∀ c ∈ l.take k, dig c = true := by
  intro c hc
  obtain ⟨i, hi, rfl⟩ := List.mem_iff_getElem.1 hc
  rw [List.getElem_take]
  simp at hi
  exact h1 i (by omega) (by omega)
theorem numS_at {l : List UInt8} {a k : Nat} {most : Int} (ha : a ≤ l.length) (hk : a + k ≤ l.length) (h1 : ∀ i (h : i < k) (h' : a + i < l.length), dig l[a + i] = true) (h2 : ∀ h : a + k < l.length, dig l[a + k] = false) :
    numS l a most = if k = 0 then (0, 0, 9) else if most < valD ((l.drop a).take k) then (0, 0, 3) else (valD ((l.drop a).take k), (a : Int) + k, 0) := by
  have e : (l.drop a).takeWhile dig = (l.drop a).take k := by
    refine takeWhile_eq _ k (by simp; omega) (fun i h h' => ?_) (fun h => ?_)
    · rw [List.getElem_drop]; exact h1 i h (by simp at h'; omega)
    · rw [List.getElem_drop]; exact h2 (by simp at h; omega)
  have hl : ((l.drop a).take k).length = k := by simp; omega
  unfold numS
  rw [if_neg (by omega)]
  simp only [Int.toNat_natCast, e]
  by_cases h0 : k = 0
  · subst h0; simp
  · rw [if_neg (by simp; omega), if_neg h0, hl]

/-! ### walks -/
theorem ret_nne {a b c a' b' c' : Int} (h : a = a') (h1 : b = b') (h2 : c = c') : Ending.returned (.tuple #[.int .i64 a, .int .i64 b, .int .i64 c]) = .returned (.tuple #[.int .i64 a', .int .i64 b', .int .i64 c']) := by rw [h, h1, h2]
theorem isDigit_any (c : Int) (hc : 0 ≤ c ∧ c ≤ 255) (w : World) : Calls Tryz.prog 179 #[.int .u8 c] w fun e w' => e = .returned (.bool (wi c 48 57)) ∧ w = w' := by
  go_enter Tryz.func179, Tryz.ntmps179
  go_wp2
  all_goals go_ret
  all_goals exact ⟨ret_bool (by go_light; simp_all [wi]; try omega), rfl⟩
theorem isDigit_at (b : Bool) (c : Int) (hc : 0 ≤ c ∧ c ≤ 255) (w : World) (hb : wi c 48 57 = b) : Calls Tryz.prog 179 #[.int .u8 c] w fun e w' => e = .returned (.bool b) ∧ w = w' := by
  subst hb; exact isDigit_any c hc w
theorem num_out (ba : Option Addr) (bl bc : Nat) (a most : Int) (w : World) (h : a < 0 ∨ (bl : Int) < a) :
    Calls Tryz.prog 184 #[.slice ba bl bc, .int .i64 a, .int .i64 most] w fun e w' => e = .returned (.tuple #[.int .i64 0, .int .i64 0, .int .i64 1]) ∧ w = w' := by
  by_cases h0 : a < 0
  · go_enter Tryz.func184, Tryz.ntmps184
    go_wp2_with fail
    all_goals go_ret3
    all_goals exact ⟨rfl, rfl⟩
  · have h1 : (bl : Int) < a := by omega
    go_enter Tryz.func184, Tryz.ntmps184
    go_wp2_with fail
    all_goals go_ret3
    all_goals exact ⟨rfl, rfl⟩
set_option maxHeartbeats 2000000 in
set_option maxRecDepth 100000 in
theorem num_in (ba : Option Addr) (bc : Nat) (xs : List UInt8) (a : Nat) (most : Int) (w : World) (ha : a ≤ xs.length) (hl : xs.length ≤ 4611686018427387904) (hm : -9223372036854775808 ≤ most ∧ most ≤ 9223372036854775807)
    (hb : 0 < xs.length → ∃ p o, ba = some ⟨p, o, none⟩ ∧ ByteRow w p o xs) :
    Calls Tryz.prog 184 #[.slice ba xs.length bc, .int .i64 a, .int .i64 most] w fun e w' => e = .returned (.tuple #[.int .i64 (numS xs a most).1, .int .i64 (numS xs a most).2.1, .int .i64 (numS xs a most).2.2]) ∧ w = w' := by
  replace hb := Lib.hid hb
  have q0 : decide ((a : Int) < 0) = false := by simp
  have q1 : decide (xs.length < a) = false := by simp; omega
  go_enter Tryz.func184, Tryz.ntmps184
  go_wp2_with fail
  go_loop [6, 7, 9] (fun n next great => ∃ (k : Nat) (m : Int) (g : Bool), next = .int .i64 ((a + k : Nat) : Int) ∧ a + k ≤ xs.length ∧ (∀ i (h : i < k) (h' : a + i < xs.length), dig xs[a + i] = true) ∧ great = .bool g ∧ (g = true ↔ 0 < k ∧ most < valD ((xs.drop a).take k)) ∧ n = .int .i64 m ∧ (g = false → m = valD ((xs.drop a).take k))) (fun _ next _ => xs.length - (intOf next).toNat)
  case atStart => exact ⟨0, 0, false, by simp, by omega, fun i h => by omega, rfl, by simp, rfl, fun _ => by simp [valD]⟩
  case round =>
    obtain ⟨k, m, g, rfl, hk, hdig, rfl, hg, rfl, hmv⟩ := hrel
    have hV0 : 0 ≤ valD ((xs.drop a).take k) := valD_nonneg _ (take_digs (l := xs.drop a) (fun i h h' => by rw [List.getElem_drop]; exact hdig i h (by simp at h'; omega)))
    by_cases hmore : ∃ h : a + k < xs.length, dig xs[a + k] = true
    · obtain ⟨hlt, hd⟩ := hmore
      obtain ⟨p, o, rfl, hrow⟩ := hb.out (by omega)
      have c1 := hrow (a + k) hlt
      have hdd : 48 ≤ (xs[a + k].toNat : Int) ∧ (xs[a + k].toNat : Int) ≤ 57 := by simp [dig] at hd; omega
      have hV : valD ((xs.drop a).take (k + 1)) = valD ((xs.drop a).take k) * 10 + ((xs[a + k].toNat : Int) - 48) := by
        rw [List.take_succ_eq_append_getElem (by simp; omega), valD_snoc, List.getElem_drop]
      have hdig' : ∀ i (h : i < k + 1) (h' : a + i < xs.length), dig xs[a + i] = true := fun i h h' => by
        by_cases e : i = k
        · subst e; exact hd
        · exact hdig i (by omega) h'
      have hwi : wi (xs[a + k].toNat : Int) 48 57 = true := by simp [wi]; omega
      replace hdig' := Lib.hid hdig'
      replace hV := Lib.hid hV
      replace hd := Lib.hid hd
      clear hdig hrow
      generalize (xs[a + k].toNat : Int) = c at *
      generalize valD ((xs.drop a).take k) = V at *
      have fin : ∀ (m' : Int) (g' : Bool), (g' = true ↔ most < V * 10 + (c - 48)) → (g' = false → m' = V * 10 + (c - 48)) → ∃ (k_1 : Nat) (m1 : Int) (g1 : Bool), Value.int .i64 (((a + k : Nat) : Int) + 1) = .int .i64 ((a + k_1 : Nat) : Int) ∧ a + k_1 ≤ xs.length ∧ (∀ i (h : i < k_1) (h' : a + i < xs.length), dig xs[a + i] = true) ∧ Value.bool g' = .bool g1 ∧ (g1 = true ↔ 0 < k_1 ∧ most < valD ((xs.drop a).take k_1)) ∧ Value.int .i64 m' = .int .i64 m1 ∧ (g1 = false → m1 = valD ((xs.drop a).take k_1)) := fun m' g' h1 h2 =>
        ⟨k + 1, m', g', by go_num, by omega, hdig'.out, rfl, by rw [hV.out, h1]; simp, rfl, fun h => by rw [hV.out]; exact h2 h⟩
      replace fin := Lib.hid fin
      have hwi := Lib.hid hwi
      cases g with
      | true =>
        have hgt : most < V * 10 + (c - 48) := by have := hg.1 rfl; omega
        clear hg hmv
        go_wp2_with (go_at_call 179; refine (isDigit_at true _ (by omega) _ hwi.out).mono ?_; rintro e w' ⟨rfl, rfl⟩)
        all_goals go_round
        all_goals first | (simp [intOf]; omega) | exact fin.out _ _ (by first | (simp; done) | (simp; omega)) (by first | (intro h; cases h; done) | (intro _; first | rfl | omega))
      | false =>
        have hmV : m = V := hmv rfl
        have hle : 0 < k → V ≤ most := fun h => by
          rcases Int.lt_or_le most V with h1 | h1
          · have := hg.2 ⟨h, h1⟩; cases this
          · exact h1
        subst hmV
        clear hg hmv
        by_cases hfit : m * 10 + (c - 48) ≤ most
        · have f1 : m ≤ (most - (c - 48)) / 10 := by omega
          have f2 : c - 48 ≤ most := by omega
          have e1 : decide ((most - (c - 48)) / 10 < m) = false := by simpa using f1
          have e2 : decide (most < c - 48) = false := by simpa using f2
          clear hle
          go_wp2_with (go_at_call 179; refine (isDigit_at true _ (by omega) _ hwi.out).mono ?_; rintro e w' ⟨rfl, rfl⟩)
          all_goals go_round
          all_goals first | (simp [intOf]; omega) | exact fin.out _ _ (by first | (simp; done) | (simp; omega)) (by first | (intro h; cases h; done) | (intro _; first | rfl | omega))
        · have hgt : most < m * 10 + (c - 48) := by omega
          by_cases f2 : most < c - 48
          · have e2 : decide (most < c - 48) = true := by simpa using f2
            clear hle
            go_wp2_with (go_at_call 179; refine (isDigit_at true _ (by omega) _ hwi.out).mono ?_; rintro e w' ⟨rfl, rfl⟩)
            all_goals go_round
            all_goals first | (simp [intOf]; omega) | exact fin.out _ _ (by first | (simp; done) | (simp; omega)) (by first | (intro h; cases h; done) | (intro _; first | rfl | omega))
          · have f1 : (most - (c - 48)) / 10 < m := by omega
            have e1 : decide ((most - (c - 48)) / 10 < m) = true := by simpa using f1
            clear hle
            go_wp2_with (go_at_call 179; refine (isDigit_at true _ (by omega) _ hwi.out).mono ?_; rintro e w' ⟨rfl, rfl⟩)
            all_goals go_round
            all_goals first | (simp [intOf]; omega) | exact fin.out _ _ (by first | (simp; done) | (simp; omega)) (by first | (intro h; cases h; done) | (intro _; first | rfl | omega))
    · have hend : numS xs a most = if k = 0 then (0, 0, 9) else if most < valD ((xs.drop a).take k) then (0, 0, 3) else (valD ((xs.drop a).take k), (a : Int) + k, 0) :=
        numS_at ha hk hdig (fun h => by
          cases hd : dig xs[a + k] with
          | true => exact absurd ⟨h, hd⟩ hmore
          | false => rfl)
      have fin : ∀ (a1 b1 c1 : Int), (if k = 0 then ((0 : Int), (0 : Int), (9 : Int)) else if most < valD ((xs.drop a).take k) then (0, 0, 3) else (valD ((xs.drop a).take k), (a : Int) + k, 0)) = (a1, b1, c1) → Ending.returned (.tuple #[.int .i64 a1, .int .i64 b1, .int .i64 c1]) = .returned (.tuple #[.int .i64 (numS xs a most).1, .int .i64 (numS xs a most).2.1, .int .i64 (numS xs a most).2.2]) := fun a1 b1 c1 h => by rw [hend, h]
      clear hend
      replace fin := Lib.hid fin
      generalize valD ((xs.drop a).take k) = V at *
      by_cases hlt : a + k < xs.length
      · obtain ⟨p, o, rfl, hrow⟩ := hb.out (by omega)
        have c1 := hrow (a + k) hlt
        have hwi : wi (xs[a + k].toNat : Int) 48 57 = false := by
          cases hd : dig xs[a + k] with
          | true => exact absurd ⟨hlt, hd⟩ hmore
          | false => simp [dig] at hd; simp [wi]; omega
        have hcc : 0 ≤ (xs[a + k].toNat : Int) ∧ (xs[a + k].toNat : Int) ≤ 255 := by have := xs[a + k].toNat_lt; omega
        clear hdig hrow
        generalize (xs[a + k].toNat : Int) = c at *
        by_cases h0 : k = 0
        · subst h0
          have c1' : w.cell? ⟨p, o + a, none⟩ = some (.int .u8 c) := by simpa using c1
          go_wp2_with (go_at_call 179; refine (isDigit_at false _ hcc _ hwi).mono ?_; rintro e w' ⟨rfl, rfl⟩)
          all_goals go_ret3
          all_goals exact ⟨fin.out 0 0 9 (by simp), rfl⟩
        · have h1 : (((a : Int) + k) == a) = false := by simp; omega
          cases g with
          | true =>
            have hx : most < V := (hg.1 rfl).2
            clear hg hmv
            go_wp2_with (go_at_call 179; refine (isDigit_at false _ hcc _ hwi).mono ?_; rintro e w' ⟨rfl, rfl⟩)
            all_goals go_ret3
            all_goals exact ⟨fin.out _ _ _ (by rw [if_neg h0, if_pos hx]), rfl⟩
          | false =>
            have hmV : m = V := hmv rfl
            have hx : ¬ most < V := fun h => by have := hg.2 ⟨by omega, h⟩; cases this
            subst hmV
            clear hg hmv
            go_wp2_with (go_at_call 179; refine (isDigit_at false _ hcc _ hwi).mono ?_; rintro e w' ⟨rfl, rfl⟩)
            all_goals go_ret3
            all_goals exact ⟨fin.out _ _ _ (by rw [if_neg h0, if_neg (by omega)]), rfl⟩
      · have hlt' : (xs.length : Int) ≤ (a : Int) + k := by omega
        clear hdig
        by_cases h0 : k = 0
        · subst h0
          have hlt'' : (xs.length : Int) ≤ a := by omega
          go_wp2_with fail
          all_goals go_ret3
          all_goals exact ⟨fin.out 0 0 9 (by simp), rfl⟩
        · have h1 : (((a : Int) + k) == a) = false := by simp; omega
          cases g with
          | true =>
            have hx : most < V := (hg.1 rfl).2
            clear hg hmv
            go_wp2_with fail
            all_goals go_ret3
            all_goals exact ⟨fin.out _ _ _ (by rw [if_neg h0, if_pos hx]), rfl⟩
          | false =>
            have hmV : m = V := hmv rfl
            have hx : ¬ most < V := fun h => by have := hg.2 ⟨by omega, h⟩; cases this
            subst hmV
            clear hg hmv
            go_wp2_with fail
            all_goals go_ret3
            all_goals exact ⟨fin.out _ _ _ (by rw [if_neg h0, if_neg (by omega)]), rfl⟩
end Go.Proofs.YtepdfkgadigafaaGreatDoor
