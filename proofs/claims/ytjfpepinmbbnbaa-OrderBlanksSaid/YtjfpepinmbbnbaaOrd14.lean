/-
  The walks of the laws OrderTells and OrderBlanks, of chapter 29.
  Conditions: as each theorem states them.
-/
import Derived.Test.YtjfpepinmbbnbaaOrd10
import Derived.Test.YtjfpepinmbbnbaaOrd13
import Derived.IntWalk
namespace Go.Proofs.Ytjfpepinmbbnbaa
open Go.RowKit
set_option linter.unusedVariables false
set_option linter.unusedSimpArgs false
theorem parse_step3 : OM.parse [115, 116, 101, 112, 32, 51] = (⟨1, 3, 0, []⟩, 0) := by
  have h : OM.wds 0 [115, 116, 101, 112, 32, 51] = [(0, [115, 116, 101, 112]), (5, [51])] := by
    rw [OM.wds_word _ _ _ (by decide)]
    show (0, [115, 116, 101, 112]) :: OM.wds 4 [32, 51] = _
    rw [OM.wds_blank, OM.wds_word _ _ _ (by decide)]
    show (0, [115, 116, 101, 112]) :: (5, [51]) :: OM.wds 6 [] = _
    rw [OM.wds_nil]
  unfold OM.parse
  rw [h]
  rfl
theorem parse_list0 : OM.parse [108, 105, 115, 116] = (⟨13, 0, 200, []⟩, 0) := by
  have h : OM.wds 0 [108, 105, 115, 116] = [(0, [108, 105, 115, 116])] := by
    rw [OM.wds_word _ _ _ (by decide)]
    show (0, [108, 105, 115, 116]) :: OM.wds 4 [] = _
    rw [OM.wds_nil]
  unfold OM.parse
  rw [h]
  rfl
set_option maxHeartbeats 2000000 in
set_option maxRecDepth 100000 in
theorem awake29 (w : World) : Calls Try.prog 5 #[] w fun e w' => e = .returned (.bool true) ∧ Below w.heap.size w w' := by
  have h1 := fun W => parse_go [115, 116, 101, 112, 32, 51] (by decide) W
  have h2 := fun W => parse_go [108, 105, 115, 116] (by decide) W
  rw [parse_step3] at h1
  rw [parse_list0] at h2
  replace h1 := Lib.hid h1
  replace h2 := Lib.hid h2
  go_enter Try.func5, Try.ntmps5
  go_wp2_with (go_at_call 6; first | ((with_reducible refine (h1.out _).mono ?_); rintro e w2 ⟨rfl, hb2⟩; have hB2 := Lib.hid hb2; clear hb2) | ((with_reducible refine (h2.out _).mono ?_); rintro e w3 ⟨rfl, hb3⟩; have gA := (Blk.new w2 24 [.int .i64 1, .int .i64 3, .int .i64 0, .string ⟨#[]⟩]).below hb3; have cA := cells4 gA; have lA := gA.lt; have hB3 := Lib.hid (bl_trans (bl_alloc (Below.refl _ _) _) hb3); clear hb3 gA))
  go_ret
  exact ⟨rfl, bl_alloc (bl_trans hB2.out hB3.out) _⟩
theorem two_blocks {w w2 w3 : World} {c1 : List Value} {t : TypeId} (h1 : Below w.heap.size w w2) (h2 : Below (w2.alloc (.cells c1.toArray t)).heap.size (w2.alloc (.cells c1.toArray t)) w3) : Blk w3 w2.heap.size t c1 ∧ Below w.heap.size w w3 :=
  ⟨(Blk.new w2 t c1).below h2, bl_trans (bl_alloc h1 _) h2⟩
set_option maxHeartbeats 2000000 in
set_option maxRecDepth 100000 in
theorem orderTells_list (L : List UInt8) (hL : L.length ≤ 9223372036854775807) (w : World) : Calls Try.prog 3 #[strV L] w fun e w' => e = .returned (.bool true) ∧ Below w.heap.size w w' := by
  have ha := Lib.hid (fun W => awake29 W)
  by_cases hl : 300 < L.length
  · have q1 : decide ((300 : Int) < L.length) = true := by rw [decide_eq_true_eq]; omega
    go_enter Try.func3, Try.ntmps3
    go_wp2_with (go_at_call 5; refine (ha.out _).mono ?_; rintro e w2 ⟨rfl, hb2⟩)
    go_ret
    exact ⟨rfl, hb2⟩
  · have q1 : decide ((300 : Int) < L.length) = false := by rw [decide_eq_false_iff_not]; omega
    have h1 := fun W => parse_go L (by omega) W
    have h2 := fun W => rparse_any L (by omega) W
    obtain ⟨⟨⟨k, n, m, s⟩, c⟩, hP⟩ : ∃ P, OM.parse L = P := ⟨_, rfl⟩
    rw [hP] at h1 h2
    replace hP := Lib.hid hP
    replace h1 := Lib.hid h1
    replace h2 := Lib.hid h2
    go_enter Try.func3, Try.ntmps3
    go_wp2_with (first
      | (go_at_call 6; refine (h1.out _).mono ?_; rintro e w2 ⟨rfl, hb2⟩; have hB2 := Lib.hid hb2; clear hb2)
      | (go_at_call 7; refine (h2.out _).mono ?_; rintro e w3 ⟨rfl, hb3⟩; obtain ⟨gA, hb4⟩ := two_blocks (c1 := [.int .i64 k, .int .i64 n, .int .i64 m, strV s]) hB2.out hb3; have cA := cells4 gA; have lA := gA.lt; have hB3 := Lib.hid hb4; clear hb3 gA hb4)
      | (go_at_call 5; refine (ha.out _).mono ?_; rintro e w4 ⟨rfl, hb4⟩))
    all_goals go_ret
    all_goals exact ⟨rfl, bl_trans (bl_alloc hB3.out _) hb4⟩
theorem ba_add (a b : List UInt8) : (⟨a.toArray⟩ : ByteArray) ++ ⟨b.toArray⟩ = ⟨(a ++ b).toArray⟩ := by apply ByteArray.ext; simp [ByteArray.data_append]
theorem six_blanks (k : Nat) (hk : k < 5) : Value.string ((⟨#[32, 32, 32, 32, 32, 32]⟩ : ByteArray).extract 0 (k + 1)) = strV (OM.bl (k + 1)) := by
  match k, hk with
  | 0, _ => rfl
  | 1, _ => rfl
  | 2, _ => rfl
  | 3, _ => rfl
  | 4, _ => rfl
set_option maxHeartbeats 4000000 in
set_option maxRecDepth 100000 in
theorem orderBlanks_list (L : List UInt8) (hL : L.length ≤ 9223372036854775807) (many : Int) (hm : 0 ≤ many ∧ many ≤ 255) (w : World) : Calls Try.prog 4 #[strV L, .int .u8 many] w fun e w' => e = .returned (.bool true) ∧ Below w.heap.size w w' := by
  have ha := Lib.hid (fun W => awake29 W)
  by_cases hl : 300 < L.length
  · have q1 : decide ((300 : Int) < L.length) = true := by rw [decide_eq_true_eq]; omega
    go_enter Try.func4, Try.ntmps4
    go_wp2_with (go_at_call 5; refine (ha.out _).mono ?_; rintro e w2 ⟨rfl, hb2⟩)
    go_ret
    exact ⟨rfl, hb2⟩
  · have q1 : decide ((300 : Int) < L.length) = false := by rw [decide_eq_false_iff_not]; omega
    have hl300 : L.length ≤ 300 := by omega
    obtain ⟨k, hk, hkm⟩ : ∃ k : Nat, k < 5 ∧ many % 5 = (k : Int) := ⟨(many % 5).toNat, by omega, by omega⟩
    have hkw : IntKind.i64.wrap ((k : Int) + 1) = (k : Int) + 1 := IntWalk.i64_in _ (by omega)
    have hk1 : (0 : Int) ≤ (k : Int) + 1 := by omega
    have hk2 : (k : Int) + 1 ≤ 6 := by omega
    have hwl := OM.wide_len (OM.bl (k + 1)) L (by simp)
    have hwl2 : (OM.wide (OM.bl (k + 1)) L).length ≤ 1500 := by
      refine Nat.le_trans hwl ?_
      rw [List.length_replicate]
      exact Nat.le_trans (Nat.mul_le_mul (show k + 1 ≤ 5 by omega) hl300) (by omega)
    have hlaw := OM.blanks_law k L
    have hwlen := OM.watch_len L
    have h1 := fun W => parse_go L (by omega) W
    have h2 := fun W => parse_go (OM.bl (k + 1) ++ OM.wide (OM.bl (k + 1)) L) (by rw [List.length_append, List.length_replicate]; omega) W
    have h3 := fun W => parse_go (OM.bl (k + 1) ++ (L ++ OM.bl (k + 1))) (by rw [List.length_append, List.length_append, List.length_replicate]; omega) W
    have e2 : strV (OM.bl (k + 1) ++ OM.wide (OM.bl (k + 1)) L) = .string (⟨(OM.bl (k + 1)).toArray⟩ ++ ⟨(OM.wide (OM.bl (k + 1)) L).toArray⟩) := by rw [ba_add]
    have e3 : strV (OM.bl (k + 1) ++ (L ++ OM.bl (k + 1))) = .string (⟨(OM.bl (k + 1)).toArray⟩ ++ ⟨L.toArray⟩ ++ ⟨(OM.bl (k + 1)).toArray⟩) := by rw [ba_add, ba_add, List.append_assoc]
    rw [e2] at h2
    rw [e3] at h3
    generalize OM.parse (OM.bl (k + 1) ++ OM.wide (OM.bl (k + 1)) L) = P2 at *
    generalize OM.parse (OM.bl (k + 1) ++ (L ++ OM.bl (k + 1))) = P3 at *
    generalize OM.parse L = P1 at *
    have h6 := six_blanks k hk
    have hBl : (OM.bl (k + 1)).length = k + 1 := by simp
    generalize OM.bl (k + 1) = B at *
    replace h6 := Lib.hid h6
    obtain ⟨⟨k1, n1, m1, s1⟩, c1⟩ := P1
    obtain ⟨⟨k2, n2, m2, s2⟩, c2⟩ := P2
    obtain ⟨⟨k3, n3, m3, s3⟩, c3⟩ := P3
    simp only at hlaw hwlen
    replace hwlen := Lib.hid hwlen
    replace h1 := Lib.hid h1
    replace h2 := Lib.hid h2
    replace h3 := Lib.hid h3
    replace hlaw := Lib.hid hlaw
    clear e2 e3 hwl
    go_enter Try.func4, Try.ntmps4
    go_upto_region 4 with fail
    go_cut [6] from 22 to 24 (fun s6 wx => s6 = strV (B) ∧ w = wx)
    case first =>
      go_wp2_with fail
      go_meet
      exact ⟨h6.out, rfl⟩
    case rest =>
      obtain ⟨rfl, rfl⟩ := hcut
      clear hkw hk1 hk2 hkm
      go_wp2_with fail
      go_loopg [7, 8] L.length (fun gh v i wr => ∃ j : Nat, gh = L.length - j ∧ i = .int .i64 (j : Int) ∧ j ≤ L.length ∧ v = strV (OM.wide B (L.take j)) ∧ w = wr)
      case atStart => exact ⟨0, rfl, rfl, by omega, by rw [List.take_zero]; rfl, rfl⟩
      case round =>
        obtain ⟨j, rfl, rfl, hj, rfl, rfl⟩ := hrel
        by_cases hlt : j < L.length
        · have hby := ba_at hlt (by rw [ba_size]; exact hlt)
          have hstep : L.take (j + 1) = L.take j ++ [L[j]] := List.take_succ_eq_append_getElem hlt
          have hsn := str_snoc (OM.wide B (L.take j)) hlt
          have hwj := OM.wide_snoc B (L.take j) L[j]
          rw [← hstep] at hwj
          have hwj2 := OM.wide_len B (L.take j) (by omega)
          have hwj3 : (OM.wide B (L.take j)).length ≤ 1500 := by
            refine Nat.le_trans hwj2 ?_
            rw [hBl, List.length_take]
            exact Nat.le_trans (Nat.mul_le_mul (show k + 1 ≤ 5 by omega) (show min j L.length ≤ 300 by omega)) (by omega)
          clear hwj2 hstep
          generalize hV : OM.wide B (L.take j) = V at *
          replace hV := Lib.hid hV
          by_cases hc : L[j] = 32
          · have qb : (((⟨L.toArray⟩ : ByteArray)[j]'(by rw [ba_size]; exact hlt)).toNat : Int) = 32 := by rw [hby, hc]; rfl
            rw [if_pos hc] at hwj
            replace hwj := Lib.hid hwj
            clear hby hc hsn
            go_wp2_with fail
            all_goals go_roundg (L.length - (j + 1))
            case measure => omega
            case rel => exact ⟨j + 1, rfl, by go_num, by omega, by rw [hwj.out, ba_add], rfl⟩
          · have qb : ((((⟨L.toArray⟩ : ByteArray)[j]'(by rw [ba_size]; exact hlt)).toNat : Int) == 32) = false := by
              rw [hby]; simp only [beq_eq_false_iff_ne, ne_eq]; intro e; exact hc (UInt8.toNat_inj.1 (by rw [show (32 : UInt8).toNat = 32 from rfl]; omega))
            rw [if_neg hc] at hwj
            replace hwj := Lib.hid hwj
            replace hsn := Lib.hid hsn
            clear hby hc
            go_wp2_with fail
            all_goals go_roundg (L.length - (j + 1))
            case measure => omega
            case rel => exact ⟨j + 1, rfl, by go_num, by omega, by rw [hwj.out]; exact congrArg Value.string hsn.out, rfl⟩
        · obtain rfl : j = L.length := by omega
          rw [List.take_length]
          generalize OM.wide B L = V at *
          by_cases h8 : k1 = 8
          · obtain ⟨hc12, hc23, hk2, hs3⟩ := hlaw.out.1 h8
            subst hc12 hc23 hk2 hs3 h8
            have hs1 : s1.length ≤ 300 := Nat.le_trans (hwlen.out rfl) hl300
            have e3 : strV (s1 ++ B) = .string (⟨s1.toArray⟩ ++ ⟨B.toArray⟩) := by rw [ba_add]
            have h3' := h3.out
            unfold OrdIs at h3'
            simp only [e3] at h3'
            replace h3' := Lib.hid h3'
            clear e3 h3 hlaw q1
            have h3 := h3'
            clear h3'
            go_wp2_with (first
              | (go_at_call 6; (first
                | ((with_reducible refine (h1.out _).mono ?_); rintro e w2 ⟨rfl, hb2⟩; have hB2 := Lib.hid hb2; clear hb2)
                | ((with_reducible refine (h2.out _).mono ?_); rintro e w3 ⟨rfl, hb3⟩; obtain ⟨gA, hb4⟩ := two_blocks (c1 := [.int .i64 8, .int .i64 n1, .int .i64 m1, strV s1]) hB2.out hb3; have cA := cells4 gA; have lA := gA.lt; have hB3 := Lib.hid hb4; replace gA := Lib.hid gA; clear hb3 hb4)
                | ((with_reducible refine (h3.out _).mono ?_); rintro e w4 ⟨rfl, hb5⟩; obtain ⟨gB, hb6⟩ := two_blocks (c1 := [.int .i64 8, .int .i64 n2, .int .i64 m2, strV s2]) hB3.out hb5; have cB := cells4 gB; have lB := gB.lt; have gA4 := (gA.out.alloc _).below hb5; have cA4 := cells4 gA4; have lA4 := gA4.lt; have hB4 := Lib.hid hb6; clear hb5 hb6 gB gA4)))
              | (go_at_call 5; refine (ha.out _).mono ?_; rintro e w5 ⟨rfl, hb7⟩))
            all_goals go_ret
            all_goals exact ⟨rfl, bl_trans (bl_alloc hB4.out _) hb7⟩
          · obtain ⟨hP2, hP3⟩ := hlaw.out.2 h8
            injection hP2 with hP2 hP2c
            injection hP2 with a1 a2 a3 a4
            injection hP3 with hP3 hP3c
            injection hP3 with b1 b2 b3 b4
            have a1 := a1.symm; have a2 := a2.symm; have a3 := a3.symm; have a4 := a4.symm; have b1 := b1.symm; have b2 := b2.symm; have b3 := b3.symm; have b4 := b4.symm; have hP2c := hP2c.symm; have hP3c := hP3c.symm
            subst a1 a2 a3 a4 b1 b2 b3 b4 hP2c hP3c
            have h8' : (k1 == 8) = false := by simpa using h8
            clear hlaw q1 h8
            go_wp2_with (first
              | (go_at_call 6; (first
                | ((with_reducible refine (h1.out _).mono ?_); rintro e w2 ⟨rfl, hb2⟩; have hB2 := Lib.hid hb2; clear hb2)
                | ((with_reducible refine (h2.out _).mono ?_); rintro e w3 ⟨rfl, hb3⟩; obtain ⟨gA, hb4⟩ := two_blocks (c1 := [.int .i64 k1, .int .i64 n1, .int .i64 m1, strV s1]) hB2.out hb3; have cA := cells4 gA; have lA := gA.lt; have hB3 := Lib.hid hb4; replace gA := Lib.hid gA; clear hb3 hb4)
                | ((with_reducible refine (h3.out _).mono ?_); rintro e w4 ⟨rfl, hb5⟩; obtain ⟨gB, hb6⟩ := two_blocks (c1 := [.int .i64 k1, .int .i64 n1, .int .i64 m1, strV s1]) hB3.out hb5; have cB := cells4 gB; have lB := gB.lt; have gA4 := (gA.out.alloc _).below hb5; have cA4 := cells4 gA4; have lA4 := gA4.lt; have hB4 := Lib.hid hb6; clear hb5 hb6 gB gA4)))
              | (go_at_call 5; refine (ha.out _).mono ?_; rintro e w5 ⟨rfl, hb7⟩))
            all_goals go_ret
            all_goals exact ⟨rfl, bl_trans (bl_alloc hB4.out _) hb7⟩
theorem str_eta (s : ByteArray) : strV s.data.toList = .string s := by
  show Value.string ⟨s.data.toList.toArray⟩ = _
  congr 1
theorem orderTells_walk (w : World) (s : ByteArray) (hs : s.size ≤ maxLen) : Calls Try.prog 3 #[.string s] w fun e w' => e = .returned (.bool true) ∧ Below w.heap.size w w' := by
  rw [← str_eta s]
  unfold maxLen at hs
  exact orderTells_list _ (by rw [size_list]; omega) w
theorem orderBlanks_walk (w : World) (s : ByteArray) (hs : s.size ≤ maxLen) (a : Int) (ha : (Lit.int .u8 a).wf = true) : Calls Try.prog 4 #[.string s, .int .u8 a] w fun e w' => e = .returned (.bool true) ∧ Below w.heap.size w w' := by
  rw [← str_eta s]
  unfold maxLen at hs
  exact orderBlanks_list _ (by rw [size_list]; omega) a (by simp [Lit.wf, IntKind.min, IntKind.max, IntKind.signed, IntKind.bits] at ha; omega) w
end Go.Proofs.Ytjfpepinmbbnbaa
