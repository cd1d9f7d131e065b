/-
  The contract of the reference's Num: it reads the number that 'numS' reads, and leaves the memory as it was.
  Conditions: as each theorem states them; none beyond.
-/
import Derived.Test.YtcjcflmnghhbaaaGreatDigN
namespace Go.Proofs.YtcjcflmnghhbaaaGreat
open Go.RowKit
set_option linter.unusedVariables false
theorem refnum_out (ba : Option Addr) (bl bc : Nat) (a most : Int) (w : World) (h : a < 0 ∨ (bl : Int) < a) :
    Calls Tryz.prog 56 #[.slice ba bl bc, .int .i64 a, .int .i64 most] w fun e w' => e = .returned (.tuple #[.int .i64 0, .int .i64 0, .int .i64 1]) ∧ w = w' := by
  by_cases h0 : a < 0
  · go_enter Tryz.func56, Tryz.ntmps56
    go_wp2_with fail
    all_goals go_ret3
    all_goals exact ⟨rfl, rfl⟩
  · have h1 : (bl : Int) < a := by omega
    go_enter Tryz.func56, Tryz.ntmps56
    go_wp2_with fail
    all_goals go_ret3
    all_goals exact ⟨rfl, rfl⟩
set_option maxHeartbeats 4000000 in
set_option maxRecDepth 100000 in
theorem refnum_in (ba : Option Addr) (bc : Nat) (xs : List UInt8) (a : Nat) (most : Int) (w : World) (ha : a ≤ xs.length) (hl : xs.length ≤ 4611686018427387904) (hm : -9223372036854775808 ≤ most ∧ most ≤ 9223372036854775807)
    (hb : 0 < xs.length → ∃ p o, ba = some ⟨p, o, none⟩ ∧ ByteRow w p o xs) :
    Calls Tryz.prog 56 #[.slice ba xs.length bc, .int .i64 a, .int .i64 most] w fun e w' => e = .returned (.tuple #[.int .i64 (numS xs a most).1, .int .i64 (numS xs a most).2.1, .int .i64 (numS xs a most).2.2]) ∧ w = w' := by
  replace hb := Lib.hid hb
  have q0 : decide ((a : Int) < 0) = false := by simp
  have q1 : decide (xs.length < a) = false := by simp; omega
  go_enter Tryz.func56, Tryz.ntmps56
  go_wp2_with fail
  go_loop [9, 10, 11] (fun next n over => ∃ (k : Nat) (m : Int) (g : Bool), next = .int .i64 ((a + k : Nat) : Int) ∧ a + k ≤ xs.length ∧ (∀ i (h : i < k) (h' : a + i < xs.length), dig xs[a + i] = true) ∧ over = .bool g ∧ n = .int .i64 m ∧ (0 ≤ m ∧ m ≤ 9223372036854775807) ∧ (g = true → 9223372036854775807 < valD ((xs.drop a).take k)) ∧ (g = false → m = valD ((xs.drop a).take k))) (fun next _ _ => xs.length - (intOf next).toNat)
  case atStart => exact ⟨0, 0, false, by simp, by omega, fun i h => by omega, rfl, rfl, ⟨by omega, by omega⟩, (fun h => by cases h), fun _ => by simp [valD]⟩
  case round =>
    obtain ⟨k, m, g, rfl, hk, hdig, rfl, rfl, hmb, hg, hmv⟩ := hrel
    have hV0 : 0 ≤ valD ((xs.drop a).take k) := valD_nonneg _ (take_digs (l := xs.drop a) (fun i h h' => by rw [List.getElem_drop]; exact hdig i h (by simp at h'; omega)))
    by_cases hmore : ∃ h : a + k < xs.length, dig xs[a + k] = true
    · obtain ⟨hlt, hd⟩ := hmore
      obtain ⟨p, o, rfl, hrow⟩ := hb.out (by omega)
      have c1 := hrow (a + k) hlt
      have hdd : 48 ≤ (xs[a + k].toNat : Int) ∧ (xs[a + k].toNat : Int) ≤ 57 := by simp [dig] at hd; omega
      have hV : valD ((xs.drop a).take (k + 1)) = valD ((xs.drop a).take k) * 10 + ((xs[a + k].toNat : Int) - 48) := by
        rw [List.take_succ_eq_append_getElem (by simp; omega), valD_snoc, List.getElem_drop]
      have hdig' : ∀ i (h : i < k + 1) (h' : a + i < xs.length), dig xs[a + i] = true := fun i h h' => by
        by_cases e : i = k
        · subst e; exact hd
        · exact hdig i (by omega) h'
      replace hdig' := Lib.hid hdig'
      replace hV := Lib.hid hV
      replace hd := Lib.hid hd
      clear hdig hrow
      generalize (xs[a + k].toNat : Int) = c at *
      generalize valD ((xs.drop a).take k) = V at *
      have fin : ∀ (m' : Int) (g' : Bool), (0 ≤ m' ∧ m' ≤ 9223372036854775807) → (g' = true → 9223372036854775807 < V * 10 + (c - 48)) → (g' = false → m' = V * 10 + (c - 48)) → ∃ (k_1 : Nat) (m1 : Int) (g1 : Bool), Value.int .i64 (((a + k : Nat) : Int) + 1) = .int .i64 ((a + k_1 : Nat) : Int) ∧ a + k_1 ≤ xs.length ∧ (∀ i (h : i < k_1) (h' : a + i < xs.length), dig xs[a + i] = true) ∧ Value.bool g' = .bool g1 ∧ Value.int .i64 m' = .int .i64 m1 ∧ (0 ≤ m1 ∧ m1 ≤ 9223372036854775807) ∧ (g1 = true → 9223372036854775807 < valD ((xs.drop a).take k_1)) ∧ (g1 = false → m1 = valD ((xs.drop a).take k_1)) := fun m' g' h0 h1 h2 =>
        ⟨k + 1, m', g', by go_num, by omega, hdig'.out, rfl, rfl, h0, fun h => by rw [hV.out]; exact h1 h, fun h => by rw [hV.out]; exact h2 h⟩
      replace fin := Lib.hid fin
      have hgV : g = true → 9223372036854775807 < V * 10 + (c - 48) := fun h => by have := hg h; omega
      have hgm : g = false → V * 10 + (c - 48) = m * 10 + (c - 48) := fun h => by rw [hmv h]
      clear hg hmv
      by_cases hfit : m * 10 + (c - 48) ≤ 9223372036854775807
      · have e1 : decide (922337203685477580 < m) = false := by simp; omega
        cases g with
        | true =>
          have hgV := hgV rfl
          clear hgm
          by_cases e2 : m = 922337203685477580
          · have e3 : (m == 922337203685477580) = true := by simpa using e2
            have e4 : decide (7 < c - 48) = false := by simp; omega
            replace e2 := Lib.hid e2
            go_wp2_with fail
            all_goals go_round
            all_goals first | (simp [intOf]; omega) | exact fin.out _ _ (by omega) (by first | (intro h; cases h; done) | (intro _; omega)) (by first | (intro h; cases h; done) | (intro _; omega))
          · have e3 : (m == 922337203685477580) = false := by simpa using e2
            clear e2
            go_wp2_with fail
            all_goals go_round
            all_goals first | (simp [intOf]; omega) | exact fin.out _ _ (by omega) (by first | (intro h; cases h; done) | (intro _; omega)) (by first | (intro h; cases h; done) | (intro _; omega))
        | false =>
          have hgm := hgm rfl
          clear hgV
          replace hgm := Lib.hid hgm
          by_cases e2 : m = 922337203685477580
          · have e3 : (m == 922337203685477580) = true := by simpa using e2
            have e4 : decide (7 < c - 48) = false := by simp; omega
            replace e2 := Lib.hid e2
            go_wp2_with fail
            all_goals go_round
            all_goals first | (simp [intOf]; omega) | exact fin.out _ _ (by omega) (by first | (intro h; cases h; done) | (intro _; exact hgm.out.symm)) (by first | (intro h; cases h; done) | (intro _; exact hgm.out.symm))
          · have e3 : (m == 922337203685477580) = false := by simpa using e2
            clear e2
            go_wp2_with fail
            all_goals go_round
            all_goals first | (simp [intOf]; omega) | exact fin.out _ _ (by omega) (by first | (intro h; cases h; done) | (intro _; exact hgm.out.symm)) (by first | (intro h; cases h; done) | (intro _; exact hgm.out.symm))
      · have hV' : 9223372036854775807 < V * 10 + (c - 48) := by
          cases g with
          | true => exact hgV rfl
          | false => rw [hgm rfl]; omega
        clear hgV hgm
        by_cases e1 : 922337203685477580 < m
        · have e1' : decide (922337203685477580 < m) = true := by simpa using e1
          go_wp2_with fail
          all_goals go_round
          all_goals first | (simp [intOf]; omega) | exact fin.out _ _ (by omega) (by first | (intro h; cases h; done) | (intro _; omega)) (by first | (intro h; cases h; done) | (intro _; omega))
        · have e1' : decide (922337203685477580 < m) = false := by simpa using e1
          have e3 : (m == 922337203685477580) = true := by simp; omega
          have e4 : decide (7 < c - 48) = true := by simp; omega
          go_wp2_with fail
          all_goals go_round
          all_goals first | (simp [intOf]; omega) | exact fin.out _ _ (by omega) (by first | (intro h; cases h; done) | (intro _; omega)) (by first | (intro h; cases h; done) | (intro _; omega))
    · have hend : numS xs a most = if k = 0 then (0, 0, 9) else if most < valD ((xs.drop a).take k) then (0, 0, 3) else (valD ((xs.drop a).take k), (a : Int) + k, 0) :=
        numS_at ha hk hdig (fun h => by
          cases hd : dig xs[a + k] with
          | true => exact absurd ⟨h, hd⟩ hmore
          | false => rfl)
      have fin : ∀ (a1 b1 c1 : Int), (if k = 0 then ((0 : Int), (0 : Int), (9 : Int)) else if most < valD ((xs.drop a).take k) then (0, 0, 3) else (valD ((xs.drop a).take k), (a : Int) + k, 0)) = (a1, b1, c1) → Ending.returned (.tuple #[.int .i64 a1, .int .i64 b1, .int .i64 c1]) = .returned (.tuple #[.int .i64 (numS xs a most).1, .int .i64 (numS xs a most).2.1, .int .i64 (numS xs a most).2.2]) := fun a1 b1 c1 h => by rw [hend, h]
      clear hend
      replace fin := Lib.hid fin
      generalize valD ((xs.drop a).take k) = V at *
      have hmany : (k = 0) ∨ (0 < k ∧ g = true ∧ most < V) ∨ (0 < k ∧ g = false ∧ m = V ∧ most < m) ∨ (0 < k ∧ g = false ∧ m = V ∧ m ≤ most) := by
        by_cases h0 : k = 0
        · exact .inl h0
        · cases g with
          | true => exact .inr (.inl ⟨by omega, rfl, by have := hg rfl; omega⟩)
          | false =>
            have := hmv rfl
            by_cases h1 : most < m
            · exact .inr (.inr (.inl ⟨by omega, rfl, this, h1⟩))
            · exact .inr (.inr (.inr ⟨by omega, rfl, this, by omega⟩))
      clear hg hmv
      have hstop : (xs.length ≤ a + k) ∨ ∃ hlt : a + k < xs.length, ((xs[a + k].toNat : Int) < 48 ∨ 57 < (xs[a + k].toNat : Int)) := by
        by_cases hlt : a + k < xs.length
        · refine .inr ⟨hlt, ?_⟩
          cases hd : dig xs[a + k] with
          | true => exact absurd ⟨hlt, hd⟩ hmore
          | false => simp [dig] at hd; omega
        · exact .inl (by omega)
      clear hdig hmore
      rcases hstop with hstop | ⟨hlt, hstop⟩
      · have s1 : decide ((a : Int) + k < xs.length) = false := by simp; omega
        rcases hmany with rfl | ⟨h0, rfl, hx⟩ | ⟨h0, rfl, rfl, hx⟩ | ⟨h0, rfl, rfl, hx⟩
        · have s2 : decide ((a : Int) < xs.length) = false := by simp; omega
          go_wp2_with fail
          all_goals go_ret3
          all_goals exact ⟨fin.out 0 0 9 (by simp), rfl⟩
        · have h1 : (((a : Int) + k) == a) = false := by simp; omega
          go_wp2_with fail
          all_goals go_ret3
          all_goals exact ⟨fin.out _ _ _ (by rw [if_neg (by omega), if_pos hx]), rfl⟩
        · have h1 : (((a : Int) + k) == a) = false := by simp; omega
          have h2 : decide (most < m) = true := by simpa using hx
          go_wp2_with fail
          all_goals go_ret3
          all_goals exact ⟨fin.out _ _ _ (by rw [if_neg (by omega), if_pos (by omega)]), rfl⟩
        · have h1 : (((a : Int) + k) == a) = false := by simp; omega
          have h2 : decide (most < m) = false := by simpa using hx
          go_wp2_with fail
          all_goals go_ret3
          all_goals exact ⟨fin.out _ _ _ (by rw [if_neg (by omega), if_neg (by omega)]), rfl⟩
      · obtain ⟨p, o, rfl, hrow⟩ := hb.out (by omega)
        have c1 := hrow (a + k) hlt
        have hcc : 0 ≤ (xs[a + k].toNat : Int) ∧ (xs[a + k].toNat : Int) ≤ 255 := by have := xs[a + k].toNat_lt; omega
        clear hrow
        generalize (xs[a + k].toNat : Int) = c at *
        rcases hmany with rfl | ⟨h0, rfl, hx⟩ | ⟨h0, rfl, rfl, hx⟩ | ⟨h0, rfl, rfl, hx⟩
        · have c1' : w.cell? ⟨p, o + a, none⟩ = some (.int .u8 c) := by simpa using c1
          rcases hstop with hs | hs
          · have s1 : decide (48 ≤ c) = false := by simpa using hs
            go_wp2_with fail
            all_goals go_ret3
            all_goals exact ⟨fin.out 0 0 9 (by simp), rfl⟩
          · have s1 : decide (48 ≤ c) = true := by simp; omega
            have s2 : decide (c ≤ 57) = false := by simpa using hs
            go_wp2_with fail
            all_goals go_ret3
            all_goals exact ⟨fin.out 0 0 9 (by simp), rfl⟩
        · have h1 : (((a : Int) + k) == a) = false := by simp; omega
          rcases hstop with hs | hs
          · have s1 : decide (48 ≤ c) = false := by simpa using hs
            go_wp2_with fail
            all_goals go_ret3
            all_goals exact ⟨fin.out _ _ _ (by rw [if_neg (by omega), if_pos hx]), rfl⟩
          · have s1 : decide (48 ≤ c) = true := by simp; omega
            have s2 : decide (c ≤ 57) = false := by simpa using hs
            go_wp2_with fail
            all_goals go_ret3
            all_goals exact ⟨fin.out _ _ _ (by rw [if_neg (by omega), if_pos hx]), rfl⟩
        · have h1 : (((a : Int) + k) == a) = false := by simp; omega
          have h2 : decide (most < m) = true := by simpa using hx
          rcases hstop with hs | hs
          · have s1 : decide (48 ≤ c) = false := by simpa using hs
            go_wp2_with fail
            all_goals go_ret3
            all_goals exact ⟨fin.out _ _ _ (by rw [if_neg (by omega), if_pos (by omega)]), rfl⟩
          · have s1 : decide (48 ≤ c) = true := by simp; omega
            have s2 : decide (c ≤ 57) = false := by simpa using hs
            go_wp2_with fail
            all_goals go_ret3
            all_goals exact ⟨fin.out _ _ _ (by rw [if_neg (by omega), if_pos (by omega)]), rfl⟩
        · have h1 : (((a : Int) + k) == a) = false := by simp; omega
          have h2 : decide (most < m) = false := by simpa using hx
          rcases hstop with hs | hs
          · have s1 : decide (48 ≤ c) = false := by simpa using hs
            go_wp2_with fail
            all_goals go_ret3
            all_goals exact ⟨fin.out _ _ _ (by rw [if_neg (by omega), if_neg (by omega)]), rfl⟩
          · have s1 : decide (48 ≤ c) = true := by simp; omega
            have s2 : decide (c ≤ 57) = false := by simpa using hs
            go_wp2_with fail
            all_goals go_ret3
            all_goals exact ⟨fin.out _ _ _ (by rw [if_neg (by omega), if_neg (by omega)]), rfl⟩
end Go.Proofs.YtcjcflmnghhbaaaGreat
