/-
  CondTells and CondBack: any text is the condition that the document says: the walks; of chapter 27.
  Conditions: as each theorem states them.
-/
import Derived.Test.YtlaafamodaogmaaRqD
import Derived.Test.YtlaafamodaogmaaCondLgw
namespace Go.Proofs.Ytlaafamodaogmaa
open Go.RowKit
set_option linter.unusedVariables false
set_option linter.unusedSimpArgs false
attribute [local go_sem ↓] load_st
theorem ctext_nil (W : World) : Calls Try.prog 17 #[.pointer none] W fun e w' => e = .returned (.string ⟨#[]⟩) ∧ W = w' := by
  go_enter Try.func17, Try.ntmps17
  go_wp2_with fail
  go_ret
  exact ⟨rfl, rfl⟩
theorem ctext_any {W : World} {c : Nat} {t : List UInt8} {phi : CM.M} (h : CondIs W c t phi) : Calls Try.prog 17 #[.pointer (some ⟨c, 0, none⟩)] W fun e w' => e = .returned (strV t) ∧ W = w' := by
  obtain ⟨g, v, hc, _, _⟩ := h
  have k0 : W.cell? ⟨c, 1, none⟩ = some (strV t) := hc.cell 1
  have kl := hc.lt
  clear hc
  go_enter Try.func17, Try.ntmps17
  go_wp2_with fail
  go_ret
  exact ⟨rfl, rfl⟩
noncomputable def ndLoad (a : Addr) : Sem Value := loadVar 50 a
theorem load_nd (a : Addr) : loadVar 50 a = ndLoad a := rfl
theorem ndLoad_is {w : World} {g : Nat} {what : List UInt8} {la : Option Addr} {ln lc : Nat} {sign : List UInt8} {n : Int} {ba : Option Addr} {bn bc : Nat} (h : Blk w g 50 (nodeC what la ln lc sign n ba bn bc)) : (ndLoad ⟨g, 0, none⟩).run Try.prog w = .ok (.agg (nodeC what la ln lc sign n ba bn bc).toArray) w := by
  have n0 : w.cell? ⟨g, 0, none⟩ = some (strV what) := h.cell 0
  have n1 : w.cell? ⟨g, 1, none⟩ = some (.slice la ln lc) := h.cell 1
  have n2 : w.cell? ⟨g, 2, none⟩ = some (strV sign) := h.cell 2
  have n3 : w.cell? ⟨g, 3, none⟩ = some (.int .i64 n) := h.cell 3
  have n4 : w.cell? ⟨g, 4, none⟩ = some (.slice ba bn bc) := h.cell 4
  unfold ndLoad nodeC
  simp [go_sem, loadVar, n0, n1, n2, n3, n4]
attribute [local go_sem ↓] load_nd
set_option maxHeartbeats 8000000 in
set_option maxRecDepth 100000 in
theorem condTells_list (s : List UInt8) (ha : s.length ≤ 140737488351232) (s1 s2 : StC) (b1 b2 : StB) (W : World) (hr1 : RawAt W s1 b1) (hr2 : RawAt W s2 b2) (hm : MxAt W) :
    Calls Try.prog 5 #[strV s, .agg s1.cells.toArray, .agg s2.cells.toArray] W fun e w' => e = .returned (.bool true) ∧ Below W.heap.size W w' := by
  obtain ⟨W1, hW1⟩ : ∃ W1, W.alloc (.cells s1.cells.toArray 34) = W1 := ⟨_, rfl⟩
  obtain ⟨W2, hW2⟩ : ∃ W2, W1.alloc (.cells s2.cells.toArray 34) = W2 := ⟨_, rfl⟩
  have hB : Below W.heap.size W W2 := by rw [← hW2, ← hW1]; exact bl_alloc (bl_alloc (Below.refl _ _) _) _
  have hB1 : Blk W2 W.heap.size 34 s1.cells := by rw [← hW2, ← hW1]; exact (Blk.new W _ _).alloc _
  have hB2 : Blk W2 (W.heap.size + 1) 34 s2.cells := by
    rw [show W.heap.size + 1 = W1.heap.size by rw [← hW1]; simp, ← hW2]; exact Blk.new W1 _ _
  have hL := Lib.hid (fun w' (hb : Below W2.heap.size W2 w') => (⟨stLoad_is s1 (hB1.below hb), stLoad_is s2 (hB2.below hb)⟩ : _ ∧ _))
  have hW : (W.alloc (.cells s1.cells.toArray 34)).alloc (.cells s2.cells.toArray 34) = W2 := by rw [hW1, hW2]
  have hsz1 : s1.cells.toArray.size = 27 := by simp [StC.cells]
  have hsz2 : s2.cells.toArray.size = 27 := by simp [StC.cells]
  have hgr := Lib.hid (great27 s s1 s2 b1 b2 W2 (hr1.below hB) (hr2.below hB))
  have haw := Lib.hid (fun w' (hw : Below W2.heap.size W2 w') => Calls.mono (awake27 w' (hm.below (bl_trans hB hw))) (R' := fun e w2 => e = .returned (.bool true) ∧ Below W.heap.size W w2) (fun e w2 he => ⟨he.1, bl_trans hB (bl_trans hw he.2)⟩))
  have haw2 := Lib.hid (fun (w8 : World) (h8 : Below W2.heap.size W2 w8) w' (hw : Below w8.heap.size w8 w') => (⟨Calls.mono (awake27 w' (hm.below (bl_trans hB (bl_trans h8 hw)))) (R' := fun e w2 => e = .returned (.bool true) ∧ Below w8.heap.size w8 w2) (fun e w2 he => ⟨he.1, bl_trans hw he.2⟩), bl_trans hB (bl_trans h8 hw)⟩ : _ ∧ _))
  replace hW := Lib.hid hW
  obtain ⟨G, hG⟩ : ∃ G, (decide (300 < s.length) || greatB s1 b1 || greatB s2 b2) = G := ⟨_, rfl⟩
  rw [hG] at hgr
  have hsv := Lib.hid (fun (hg : G = false) w' (hw : Below W2.heap.size W2 w') => (by
    rw [hg] at hG
    simp only [Bool.or_eq_false_iff] at hG
    exact ⟨(hr1.sv hG.1.2).below (bl_trans hB hw), (hr2.sv hG.2).below (bl_trans hB hw)⟩ : StSv w' s1 (svOf s1 b1) ∧ StSv w' s2 (svOf s2 b2)))
  have hlen := Lib.hid (fun (hg : G = false) => (by
    rw [hg] at hG
    simp only [Bool.or_eq_false_iff, decide_eq_false_iff_not, Nat.not_lt] at hG
    exact hG.1.1 : s.length ≤ 300))
  replace hG := Lib.hid hG
  have hmx := Lib.hid (fun w' (hw : Below W2.heap.size W2 w') => hm.below (bl_trans hB hw))
  clear hr1 hr2 hB1 hB2 hW1 hW2 hm
  have hH := Lib.hid (fun (hg : G = false) c phi (W7 : World) (h7 : Below W2.heap.size W2 W7) (hC : CondIs W7 c s phi) w' (hw : Below W7.heap.size W7 w') => (⟨Calls.mono (holds_any (hC.below hw) (hsv.out hg w' (bl_trans h7 hw)).1 (hsv.out hg w' (bl_trans h7 hw)).2 (hmx.out w' (bl_trans h7 hw))) (R' := fun e w2 => e = .returned (.bool (phi (svOf s1 b1) (svOf s2 b2))) ∧ Below W7.heap.size W7 w2) (fun e w2 he => ⟨he.1, bl_trans hw he.2⟩), Calls.mono (holds_any (hC.below hw) (hsv.out hg w' (bl_trans h7 hw)).2 (hsv.out hg w' (bl_trans h7 hw)).2 (hmx.out w' (bl_trans h7 hw))) (R' := fun e w2 => e = .returned (.bool (phi (svOf s2 b2) (svOf s2 b2))) ∧ Below W7.heap.size W7 w2) (fun e w2 he => ⟨he.1, bl_trans hw he.2⟩)⟩ : _ ∧ _))
  have hN := Lib.hid (fun (hg : G = false) lo hi cs phi (W7 : World) (h7 : Below W2.heap.size W2 W7) (hC : NodeIs lo hi cs phi W7) w' (hw : Below W7.heap.size W7 w') => (⟨Calls.mono (hC.2.2 w' (KeepI.below hw hC.1) _ _ _ _ (hsv.out hg w' (bl_trans h7 hw)).1 (hsv.out hg w' (bl_trans h7 hw)).2) (R' := fun e w2 => e = .returned (.bool (phi (svOf s1 b1) (svOf s2 b2))) ∧ Below W7.heap.size W7 w2) (fun e w2 he => ⟨he.1, bl_trans hw he.2⟩), Calls.mono (hC.2.2 w' (KeepI.below hw hC.1) _ _ _ _ (hsv.out hg w' (bl_trans h7 hw)).2 (hsv.out hg w' (bl_trans h7 hw)).2) (R' := fun e w2 => e = .returned (.bool (phi (svOf s2 b2) (svOf s2 b2))) ∧ Below W7.heap.size W7 w2) (fun e w2 he => ⟨he.1, bl_trans hw he.2⟩)⟩ : _ ∧ _))
  have hZ := Lib.hid (fun (W7 : World) w' (hw : Below W7.heap.size W7 w') => Calls.mono (holds_nil s1 s2 w') (R' := fun e w2 => e = .returned (.bool false) ∧ Below W7.heap.size W7 w2) (fun e w2 he => ⟨he.1, bl_trans hw he.2⟩))
  replace hB := Lib.hid hB
  have hpa := Lib.hid (fun w' => cparse_any s w')
  generalize svOf s1 b1 = v1 at *
  generalize svOf s2 b2 = v2 at *
  generalize greatB s1 b1 = G1 at *
  generalize greatB s2 b2 = G2 at *
  clear hsv hmx
  obtain ⟨C1, hC1⟩ : ∃ C, s1.cells.toArray = C := ⟨_, rfl⟩
  obtain ⟨C2, hC2⟩ : ∃ C, s2.cells.toArray = C := ⟨_, rfl⟩
  rw [hC1] at hW hsz1 hgr hL hH hN hZ ⊢
  rw [hC2] at hW hsz2 hgr hL hH hN hZ ⊢
  replace hC1 := Lib.hid hC1
  replace hC2 := Lib.hid hC2
  go_enter Try.func5, Try.ntmps5
  go_upto_region 1 with fail
  rw [hW.out]
  clear hW
  obtain ⟨L1, L2⟩ := hL.out W2 (Below.refl _ _)
  cases G with
  | true =>
    go_wp2_with (first
      | (go_at_call 9; (with_reducible refine hgr.out.mono ?_); rintro e w5 ⟨rfl, hb5⟩)
      | (go_at_call 10; refine (haw.out _ hb5).mono ?_; rintro e w6 ⟨rfl, hb6⟩))
    all_goals go_ret
    all_goals exact ⟨rfl, hb6⟩
  | false =>
    have hl300 := hlen.out rfl
    replace hH := Lib.hid (hH.out rfl)
    replace hN := Lib.hid (hN.out rfl)
    have hpr := Lib.hid (fun w' => rparse_any s (by omega) w')
    clear hlen
    go_upto_region 3 with (go_at_call 9; (with_reducible refine hgr.out.mono ?_); rintro e w5 ⟨rfl, hb5⟩)
    clear hgr L1 L2
    cases hpA : CM.parseS s with
    | error e =>
      obtain ⟨p, x⟩ := e
      have hx := CM.parse_er hpA
      have q1 : (x != 0) = true := by simpa using hx
      have cA := fun w' => (by have := hpa.out w'; unfold ParseIs at this; rw [hpA] at this; exact this : Calls Try.prog 11 #[strV s] w' fun e w2 => e = .returned (.tuple #[.pointer none, .int .i64 (p : Int), .int .i64 x]) ∧ Below w'.heap.size w' w2)
      have cB := fun w' => (by
        have := hpr.out w'; rw [hpA] at this
        refine this.mono ?_
        rintro e w2 ⟨hb, v, a, y, rfl, ⟨what, la, ln, lc, sg, n, ba, bn, bc, rfl⟩, rfl, rfl, _⟩
        exact ⟨_, _, _, _, _, _, _, _, _, rfl, hb⟩ : Calls Try.prog 16 #[strV s] w' fun e w2 => ∃ (what : List UInt8) (la : Option Addr) (ln lc : Nat) (sg : List UInt8) (n : Int) (ba : Option Addr) (bn bc : Nat), e = .returned (.tuple #[.agg #[strV what, .slice la ln lc, strV sg, .int .i64 n, .slice ba bn bc], .int .i64 (p : Int), .int .i64 x]) ∧ Below w'.heap.size w' w2)
      replace cA := Lib.hid cA
      replace cB := Lib.hid cB
      replace hx := Lib.hid hx
      clear hpa hpr hpA
      go_upto_region 4 with (go_at_call 11; (with_reducible refine (cA.out _).mono ?_); rintro e w6 ⟨rfl, hb6⟩)
      go_upto_region 5 with (go_at_call 16; (with_reducible refine (cB.out _).mono ?_); rintro e w7 ⟨xw, xa, xn, xc, xs, xm, xb, xbn, xbc, rfl, hb7⟩)
      have hb8 : Below w7.heap.size w7 (w7.alloc (.cells #[strV xw, .slice xa xn xc, strV xs, .int .i64 xm, .slice xb xbn xbc] 50)) := bl_alloc (Below.refl _ _) _
      obtain ⟨w8, hw8⟩ : ∃ w8, w7.alloc (.cells #[strV xw, .slice xa xn xc, strV xs, .int .i64 xm, .slice xb xbn xbc] 50) = w8 := ⟨_, rfl⟩
      rw [hw8] at hb8 ⊢
      replace hw8 := Lib.hid hw8
      have hb58 := bl_trans hb5 (bl_trans hb6 (bl_trans hb7 hb8))
      obtain ⟨L1, L2⟩ := hL.out w8 hb58
      have hZ8 := Lib.hid (hZ.out w8 w8 (Below.refl _ _))
      clear cA cB hb5 hb6 hb7 hb8
      go_wp2_with (first
        | (go_at_call 12; (with_reducible refine hZ8.out.mono ?_); rintro e w9 ⟨rfl, hb9⟩)
        | (go_at_call 17; (with_reducible refine (ctext_nil _).mono ?_); rintro e w10 ⟨rfl, rfl⟩)
        | (go_at_call 10; refine (haw.out _ (bl_trans hb58 hb9)).mono ?_; rintro e w11 ⟨rfl, hb11⟩))
      all_goals go_ret
      all_goals exact ⟨rfl, hb11⟩
    | ok phi =>
      have cA := fun w' => (by have := hpa.out w'; unfold ParseIs at this; rw [hpA] at this; exact this : Calls Try.prog 11 #[strV s] w' fun e w2 => ∃ c, e = .returned (.tuple #[.pointer (some ⟨c, 0, none⟩), .int .i64 0, .int .i64 0]) ∧ CondIs w2 c s phi ∧ w'.heap.size ≤ c ∧ Below w'.heap.size w' w2)
      have cB := fun w' => (by
        have := hpr.out w'; rw [hpA] at this
        refine this.mono ?_
        rintro e w2 ⟨hb, v, a, y, rfl, ⟨what, la, ln, lc, sg, n, ba, bn, bc, rfl⟩, rfl, rfl, hN⟩
        exact ⟨_, _, _, _, _, _, _, _, _, rfl, hb, hN⟩ : Calls Try.prog 16 #[strV s] w' fun e w2 => ∃ (what : List UInt8) (la : Option Addr) (ln lc : Nat) (sg : List UInt8) (n : Int) (ba : Option Addr) (bn bc : Nat), e = .returned (.tuple #[.agg #[strV what, .slice la ln lc, strV sg, .int .i64 n, .slice ba bn bc], .int .i64 0, .int .i64 0]) ∧ Below w'.heap.size w' w2 ∧ NodeIs w'.heap.size w2.heap.size (nodeC what la ln lc sg n ba bn bc) phi w2)
      replace cA := Lib.hid cA
      replace cB := Lib.hid cB
      clear hpa hpr hpA
      go_upto_region 4 with (go_at_call 11; (with_reducible refine (cA.out _).mono ?_); rintro e w6 ⟨c1, rfl, hC1c, _, hb6⟩)
      go_upto_region 5 with (go_at_call 16; (with_reducible refine (cB.out _).mono ?_); rintro e w7 ⟨xw, xa, xn, xc, xs, xm, xb, xbn, xbc, rfl, hb7, hN7⟩; replace hN7 := Lib.hid hN7)
      have hb8 : Below w7.heap.size w7 (w7.alloc (.cells #[strV xw, .slice xa xn xc, strV xs, .int .i64 xm, .slice xb xbn xbc] 50)) := bl_alloc (Below.refl _ _) _
      have hn8 : Blk (w7.alloc (.cells #[strV xw, .slice xa xn xc, strV xs, .int .i64 xm, .slice xb xbn xbc] 50)) w7.heap.size 50 (nodeC xw xa xn xc xs xm xb xbn xbc) := Blk.new w7 _ _
      obtain ⟨nb, hnb⟩ : ∃ nb, w7.heap.size = nb := ⟨_, rfl⟩
      obtain ⟨w8, hw8⟩ : ∃ w8, w7.alloc (.cells #[strV xw, .slice xa xn xc, strV xs, .int .i64 xm, .slice xb xbn xbc] 50) = w8 := ⟨_, rfl⟩
      have hN8 := hN7.out.keep (KeepI.below (hw8 ▸ hb8) (Nat.le_refl _))
      rw [hw8] at hb8 hn8 ⊢
      rw [hnb] at hn8 ⊢
      replace hw8 := Lib.hid hw8
      replace hnb := Lib.hid hnb
      have hb58 := bl_trans hb5 (bl_trans hb6 (bl_trans hb7 hb8))
      have hP := Lib.hid (hH.out c1 phi w8 hb58 (hC1c.below (bl_trans hb7 hb8)))
      have hQ := Lib.hid (hN.out _ _ _ phi w8 hb58 hN8)
      have hI8 := Lib.hid (fun w' (hw : Below w8.heap.size w8 w') => (⟨hL.out w' (bl_trans hb58 hw), ndLoad_is (hn8.below hw)⟩ : _ ∧ _))
      have haw8 := Lib.hid (fun w' (hw : Below w8.heap.size w8 w') => haw2.out w8 hb58 w' hw)
      generalize phi v1 v2 = P at hP hQ
      generalize phi v2 v2 = Q at hP hQ
      unfold nodeC at hI8 hQ
      clear cA cB hb5 hb6 hb7 hb8 hC1c hN8 hn8 hL hH hN haw haw2 hZ hN7
      go_upto_region 9 with fail
      have sB : Below w8.heap.size w8 w8.drew := bl_drew (Below.refl _ _)
      have sI : Below w8.heap.size w8 w8.drew ∧ (stLoad ⟨W.heap.size, 0, none⟩).run Try.prog w8.drew = .ok (.agg C1) w8.drew ∧ (stLoad ⟨W.heap.size + 1, 0, none⟩).run Try.prog w8.drew = .ok (.agg C2) w8.drew ∧ (ndLoad ⟨nb, 0, none⟩).run Try.prog w8.drew = .ok (.agg #[strV xw, .slice xa xn xc, strV xs, .int .i64 xm, .slice xb xbn xbc]) w8.drew := ⟨sB, (hI8.out _ sB).1.1, (hI8.out _ sB).1.2, (hI8.out _ sB).2⟩
      have hP1 := Lib.hid (hP.out _ sB).1
      go_region_held3 (fun w' => Below w8.heap.size w8 w' ∧ (stLoad ⟨W.heap.size, 0, none⟩).run Try.prog w' = .ok (.agg C1) w' ∧ (stLoad ⟨W.heap.size + 1, 0, none⟩).run Try.prog w' = .ok (.agg C2) w' ∧ (ndLoad ⟨nb, 0, none⟩).run Try.prog w' = .ok (.agg #[strV xw, .slice xa xn xc, strV xs, .int .i64 xm, .slice xb xbn xbc]) w') (first | with_reducible exact sI | with_reducible exact hI9 | with_reducible exact hI10 | with_reducible exact hI11 | with_reducible exact hI12 | with_reducible exact hI13)
        (first
          | (go_at_call 12; (first
            | ((with_reducible refine hP1.out.mono ?_); rintro e w9 ⟨rfl, hb9⟩; have hI9 := And.intro hb9 (And.intro (hI8.out _ hb9).1.1 (And.intro (hI8.out _ hb9).1.2 (hI8.out _ hb9).2)); have hQ1 := Lib.hid (hQ.out _ hb9).1)
            | ((with_reducible refine hP2.out.mono ?_); rintro e w11 ⟨rfl, hb11⟩; have hI11 := And.intro hb11 (And.intro (hI8.out _ hb11).1.1 (And.intro (hI8.out _ hb11).1.2 (hI8.out _ hb11).2)); have hQ2 := Lib.hid (hQ.out _ hb11).2)))
          | (go_at_call 18; (first
            | ((with_reducible refine hQ1.out.mono ?_); rintro e w10 ⟨rfl, hb10⟩; have hI10 := And.intro hb10 (And.intro (hI8.out _ hb10).1.1 (And.intro (hI8.out _ hb10).1.2 (hI8.out _ hb10).2)); have hP2 := Lib.hid (hP.out _ hb10).2)
            | ((with_reducible refine hQ2.out.mono ?_); rintro e w12 ⟨rfl, hb12⟩; have hI12 := And.intro hb12 (And.intro (hI8.out _ hb12).1.1 (And.intro (hI8.out _ hb12).1.2 (hI8.out _ hb12).2)); have hA12 := Lib.hid (haw8.out _ hb12).1)))
          | (go_at_call 10; (with_reducible refine hA12.out.mono ?_); rintro e w13 ⟨rfl, hb13⟩; have hI13 := And.intro hb13 (And.intro (hI8.out _ hb13).1.1 (And.intro (hI8.out _ hb13).1.2 (hI8.out _ hb13).2))))
      go_wp2_with fail
      all_goals go_ret
      all_goals exact ⟨rfl, (haw8.out _ hb13).2⟩
set_option maxHeartbeats 8000000 in
set_option maxRecDepth 100000 in
theorem condBack_list (s : List UInt8) (ha : s.length ≤ 140737488351232) (s1 s2 : StC) (b1 b2 : StB) (W : World) (hr1 : RawAt W s1 b1) (hr2 : RawAt W s2 b2) (hm : MxAt W) :
    Calls Try.prog 6 #[strV s, .agg s1.cells.toArray, .agg s2.cells.toArray] W fun e w' => e = .returned (.bool true) ∧ Below W.heap.size W w' := by
  obtain ⟨W1, hW1⟩ : ∃ W1, W.alloc (.cells s1.cells.toArray 34) = W1 := ⟨_, rfl⟩
  obtain ⟨W2, hW2⟩ : ∃ W2, W1.alloc (.cells s2.cells.toArray 34) = W2 := ⟨_, rfl⟩
  have hB : Below W.heap.size W W2 := by rw [← hW2, ← hW1]; exact bl_alloc (bl_alloc (Below.refl _ _) _) _
  have hB1 : Blk W2 W.heap.size 34 s1.cells := by rw [← hW2, ← hW1]; exact (Blk.new W _ _).alloc _
  have hB2 : Blk W2 (W.heap.size + 1) 34 s2.cells := by
    rw [show W.heap.size + 1 = W1.heap.size by rw [← hW1]; simp, ← hW2]; exact Blk.new W1 _ _
  have hL := Lib.hid (fun w' (hb : Below W2.heap.size W2 w') => (⟨stLoad_is s1 (hB1.below hb), stLoad_is s2 (hB2.below hb)⟩ : _ ∧ _))
  have hW : (W.alloc (.cells s1.cells.toArray 34)).alloc (.cells s2.cells.toArray 34) = W2 := by rw [hW1, hW2]
  have hsz1 : s1.cells.toArray.size = 27 := by simp [StC.cells]
  have hsz2 : s2.cells.toArray.size = 27 := by simp [StC.cells]
  have hgr := Lib.hid (great27 s s1 s2 b1 b2 W2 (hr1.below hB) (hr2.below hB))
  have haw := Lib.hid (fun w' (hw : Below W2.heap.size W2 w') => Calls.mono (awake27 w' (hm.below (bl_trans hB hw))) (R' := fun e w2 => e = .returned (.bool true) ∧ Below W.heap.size W w2) (fun e w2 he => ⟨he.1, bl_trans hB (bl_trans hw he.2)⟩))
  have haw2 := Lib.hid (fun (w8 : World) (h8 : Below W2.heap.size W2 w8) w' (hw : Below w8.heap.size w8 w') => (⟨Calls.mono (awake27 w' (hm.below (bl_trans hB (bl_trans h8 hw)))) (R' := fun e w2 => e = .returned (.bool true) ∧ Below w8.heap.size w8 w2) (fun e w2 he => ⟨he.1, bl_trans hw he.2⟩), bl_trans hB (bl_trans h8 hw)⟩ : _ ∧ _))
  replace hW := Lib.hid hW
  obtain ⟨G, hG⟩ : ∃ G, (decide (300 < s.length) || greatB s1 b1 || greatB s2 b2) = G := ⟨_, rfl⟩
  rw [hG] at hgr
  have hsv := Lib.hid (fun (hg : G = false) w' (hw : Below W2.heap.size W2 w') => (by
    rw [hg] at hG
    simp only [Bool.or_eq_false_iff] at hG
    exact ⟨(hr1.sv hG.1.2).below (bl_trans hB hw), (hr2.sv hG.2).below (bl_trans hB hw)⟩ : StSv w' s1 (svOf s1 b1) ∧ StSv w' s2 (svOf s2 b2)))
  have hlen := Lib.hid (fun (hg : G = false) => (by
    rw [hg] at hG
    simp only [Bool.or_eq_false_iff, decide_eq_false_iff_not, Nat.not_lt] at hG
    exact hG.1.1 : s.length ≤ 300))
  replace hG := Lib.hid hG
  have hmx := Lib.hid (fun w' (hw : Below W2.heap.size W2 w') => hm.below (bl_trans hB hw))
  clear hr1 hr2 hB1 hB2 hW1 hW2 hm
  have hH := Lib.hid (fun (hg : G = false) c phi (W7 : World) (h7 : Below W2.heap.size W2 W7) (hC : CondIs W7 c s phi) w' (hw : Below W7.heap.size W7 w') => (⟨Calls.mono (holds_any (hC.below hw) (hsv.out hg w' (bl_trans h7 hw)).1 (hsv.out hg w' (bl_trans h7 hw)).2 (hmx.out w' (bl_trans h7 hw))) (R' := fun e w2 => e = .returned (.bool (phi (svOf s1 b1) (svOf s2 b2))) ∧ Below W7.heap.size W7 w2) (fun e w2 he => ⟨he.1, bl_trans hw he.2⟩), Calls.mono (holds_any (hC.below hw) (hsv.out hg w' (bl_trans h7 hw)).2 (hsv.out hg w' (bl_trans h7 hw)).2 (hmx.out w' (bl_trans h7 hw))) (R' := fun e w2 => e = .returned (.bool (phi (svOf s2 b2) (svOf s2 b2))) ∧ Below W7.heap.size W7 w2) (fun e w2 he => ⟨he.1, bl_trans hw he.2⟩)⟩ : _ ∧ _))
  have hN := Lib.hid (fun (hg : G = false) lo hi cs phi (W7 : World) (h7 : Below W2.heap.size W2 W7) (hC : NodeIs lo hi cs phi W7) w' (hw : Below W7.heap.size W7 w') => (⟨Calls.mono (hC.2.2 w' (KeepI.below hw hC.1) _ _ _ _ (hsv.out hg w' (bl_trans h7 hw)).1 (hsv.out hg w' (bl_trans h7 hw)).2) (R' := fun e w2 => e = .returned (.bool (phi (svOf s1 b1) (svOf s2 b2))) ∧ Below W7.heap.size W7 w2) (fun e w2 he => ⟨he.1, bl_trans hw he.2⟩), Calls.mono (hC.2.2 w' (KeepI.below hw hC.1) _ _ _ _ (hsv.out hg w' (bl_trans h7 hw)).2 (hsv.out hg w' (bl_trans h7 hw)).2) (R' := fun e w2 => e = .returned (.bool (phi (svOf s2 b2) (svOf s2 b2))) ∧ Below W7.heap.size W7 w2) (fun e w2 he => ⟨he.1, bl_trans hw he.2⟩)⟩ : _ ∧ _))
  have hZ := Lib.hid (fun (W7 : World) w' (hw : Below W7.heap.size W7 w') => Calls.mono (holds_nil s1 s2 w') (R' := fun e w2 => e = .returned (.bool false) ∧ Below W7.heap.size W7 w2) (fun e w2 he => ⟨he.1, bl_trans hw he.2⟩))
  replace hB := Lib.hid hB
  have hpa := Lib.hid (fun w' => cparse_any s w')
  generalize svOf s1 b1 = v1 at *
  generalize svOf s2 b2 = v2 at *
  generalize greatB s1 b1 = G1 at *
  generalize greatB s2 b2 = G2 at *
  clear hsv hmx
  obtain ⟨C1, hC1⟩ : ∃ C, s1.cells.toArray = C := ⟨_, rfl⟩
  obtain ⟨C2, hC2⟩ : ∃ C, s2.cells.toArray = C := ⟨_, rfl⟩
  rw [hC1] at hW hsz1 hgr hL hH hN hZ ⊢
  rw [hC2] at hW hsz2 hgr hL hH hN hZ ⊢
  replace hC1 := Lib.hid hC1
  replace hC2 := Lib.hid hC2
  go_enter Try.func6, Try.ntmps6
  go_upto_region 1 with fail
  rw [hW.out]
  clear hW
  obtain ⟨L1, L2⟩ := hL.out W2 (Below.refl _ _)
  cases G with
  | true =>
    go_wp2_with (first
      | (go_at_call 9; (with_reducible refine hgr.out.mono ?_); rintro e w5 ⟨rfl, hb5⟩)
      | (go_at_call 10; refine (haw.out _ hb5).mono ?_; rintro e w6 ⟨rfl, hb6⟩))
    all_goals go_ret
    all_goals exact ⟨rfl, hb6⟩
  | false =>
    have hl300 := hlen.out rfl
    replace hH := Lib.hid (hH.out rfl)
    replace hN := Lib.hid (hN.out rfl)
    have hpr := Lib.hid (fun w' => rparse_any s (by omega) w')
    clear hlen
    go_upto_region 3 with (go_at_call 9; (with_reducible refine hgr.out.mono ?_); rintro e w5 ⟨rfl, hb5⟩)
    clear hgr L1 L2
    cases hpA : CM.parseS s with
    | error e =>
      obtain ⟨p, x⟩ := e
      have hx := CM.parse_er hpA
      have q1 : (x != 0) = true := by simpa using hx
      have cA := fun w' => (by have := hpa.out w'; unfold ParseIs at this; rw [hpA] at this; exact this : Calls Try.prog 11 #[strV s] w' fun e w2 => e = .returned (.tuple #[.pointer none, .int .i64 (p : Int), .int .i64 x]) ∧ Below w'.heap.size w' w2)
      replace cA := Lib.hid cA
      replace hx := Lib.hid hx
      clear hpa hpr hpA
      go_wp2_with (first
        | (go_at_call 11; (with_reducible refine (cA.out _).mono ?_); rintro e w6 ⟨rfl, hb6⟩)
        | (go_at_call 10; refine (haw.out _ (bl_trans hb5 hb6)).mono ?_; rintro e w11 ⟨rfl, hb11⟩))
      all_goals go_ret
      all_goals exact ⟨rfl, hb11⟩
    | ok phi =>
      have cA := fun w' => (by have := hpa.out w'; unfold ParseIs at this; rw [hpA] at this; exact this : Calls Try.prog 11 #[strV s] w' fun e w2 => ∃ c, e = .returned (.tuple #[.pointer (some ⟨c, 0, none⟩), .int .i64 0, .int .i64 0]) ∧ CondIs w2 c s phi ∧ w'.heap.size ≤ c ∧ Below w'.heap.size w' w2)
      have cB := fun w' => (by
        have := hpr.out w'; rw [hpA] at this
        refine this.mono ?_
        rintro e w2 ⟨hb, v, a, y, rfl, ⟨what, la, ln, lc, sg, n, ba, bn, bc, rfl⟩, rfl, rfl, hN⟩
        exact ⟨_, _, _, _, _, _, _, _, _, rfl, hb, hN⟩ : Calls Try.prog 16 #[strV s] w' fun e w2 => ∃ (what : List UInt8) (la : Option Addr) (ln lc : Nat) (sg : List UInt8) (n : Int) (ba : Option Addr) (bn bc : Nat), e = .returned (.tuple #[.agg #[strV what, .slice la ln lc, strV sg, .int .i64 n, .slice ba bn bc], .int .i64 0, .int .i64 0]) ∧ Below w'.heap.size w' w2 ∧ NodeIs w'.heap.size w2.heap.size (nodeC what la ln lc sg n ba bn bc) phi w2)
      replace cA := Lib.hid cA
      replace cB := Lib.hid cB
      clear hpa hpr hpA
      go_upto_region 6 with (go_at_call 11; (with_reducible refine (cA.out _).mono ?_); rintro e w6 ⟨c1, rfl, hC1c, _, hb6⟩; have ht6 := Lib.hid (ctext_any hC1c))
      go_upto_region 7 with (first
        | (go_at_call 17; (with_reducible refine ht6.out.mono ?_); rintro e w0 ⟨rfl, rfl⟩)
        | (go_at_call 11; (with_reducible refine (cA.out _).mono ?_); rintro e w66 ⟨c2, rfl, hC2c, _, hb66⟩; have ht66 := Lib.hid (ctext_any (hC1c.below hb66))))
      go_upto_region 8 with (first
        | (go_at_call 17; (with_reducible refine ht66.out.mono ?_); rintro e w0 ⟨rfl, rfl⟩)
        | (go_at_call 16; (with_reducible refine (cB.out _).mono ?_); rintro e w7 ⟨xw, xa, xn, xc, xs, xm, xb, xbn, xbc, rfl, hb7, hN7⟩; replace hN7 := Lib.hid hN7))
      have hb8 : Below w7.heap.size w7 (w7.alloc (.cells #[strV xw, .slice xa xn xc, strV xs, .int .i64 xm, .slice xb xbn xbc] 50)) := bl_alloc (Below.refl _ _) _
      have hn8 : Blk (w7.alloc (.cells #[strV xw, .slice xa xn xc, strV xs, .int .i64 xm, .slice xb xbn xbc] 50)) w7.heap.size 50 (nodeC xw xa xn xc xs xm xb xbn xbc) := Blk.new w7 _ _
      obtain ⟨nb, hnb⟩ : ∃ nb, w7.heap.size = nb := ⟨_, rfl⟩
      obtain ⟨w8, hw8⟩ : ∃ w8, w7.alloc (.cells #[strV xw, .slice xa xn xc, strV xs, .int .i64 xm, .slice xb xbn xbc] 50) = w8 := ⟨_, rfl⟩
      have hN8 := hN7.out.keep (KeepI.below (hw8 ▸ hb8) (Nat.le_refl _))
      rw [hw8] at hb8 hn8 ⊢
      rw [hnb] at hn8 ⊢
      replace hw8 := Lib.hid hw8
      replace hnb := Lib.hid hnb
      have hb58 := bl_trans hb5 (bl_trans hb6 (bl_trans hb66 (bl_trans hb7 hb8)))
      have hP := Lib.hid (fun w' hw => (hH.out c1 phi w8 hb58 (hC1c.below (bl_trans hb66 (bl_trans hb7 hb8))) w' hw).1)
      have hP2 := Lib.hid (fun w' hw => (hH.out c2 phi w8 hb58 (hC2c.below (bl_trans hb7 hb8)) w' hw).1)
      have hQ := Lib.hid (fun w' hw => (hN.out _ _ _ phi w8 hb58 hN8 w' hw).1)
      have hI8 := Lib.hid (fun w' (hw : Below w8.heap.size w8 w') => (⟨hL.out w' (bl_trans hb58 hw), ndLoad_is (hn8.below hw)⟩ : _ ∧ _))
      have haw8 := Lib.hid (fun w' (hw : Below w8.heap.size w8 w') => haw2.out w8 hb58 w' hw)
      generalize phi v1 v2 = P at hP hP2 hQ
      unfold nodeC at hI8 hQ
      clear cA cB hb5 hb6 hb7 hb8 hC1c hC2c ht6 ht66 hb66 hN8 hn8 hL hH hN haw haw2 hZ hN7
      go_upto_region 8 with fail
      have sB : Below w8.heap.size w8 w8.drew := bl_drew (Below.refl _ _)
      have sI : Below w8.heap.size w8 w8.drew ∧ (stLoad ⟨W.heap.size, 0, none⟩).run Try.prog w8.drew = .ok (.agg C1) w8.drew ∧ (stLoad ⟨W.heap.size + 1, 0, none⟩).run Try.prog w8.drew = .ok (.agg C2) w8.drew ∧ (ndLoad ⟨nb, 0, none⟩).run Try.prog w8.drew = .ok (.agg #[strV xw, .slice xa xn xc, strV xs, .int .i64 xm, .slice xb xbn xbc]) w8.drew := ⟨sB, (hI8.out _ sB).1.1, (hI8.out _ sB).1.2, (hI8.out _ sB).2⟩
      have hD1 := Lib.hid (hP2.out _ sB)
      go_region_held3 (fun w' => Below w8.heap.size w8 w' ∧ (stLoad ⟨W.heap.size, 0, none⟩).run Try.prog w' = .ok (.agg C1) w' ∧ (stLoad ⟨W.heap.size + 1, 0, none⟩).run Try.prog w' = .ok (.agg C2) w' ∧ (ndLoad ⟨nb, 0, none⟩).run Try.prog w' = .ok (.agg #[strV xw, .slice xa xn xc, strV xs, .int .i64 xm, .slice xb xbn xbc]) w') (first | with_reducible exact sI | with_reducible exact hI9 | with_reducible exact hI10 | with_reducible exact hI11 | with_reducible exact hI12 | with_reducible exact hI13)
        (first
          | (go_at_call 12; (first
            | ((with_reducible refine hD1.out.mono ?_); rintro e w9 ⟨rfl, hb9⟩; have hI9 := And.intro hb9 (And.intro (hI8.out _ hb9).1.1 (And.intro (hI8.out _ hb9).1.2 (hI8.out _ hb9).2)); have hC9 := Lib.hid (hP.out _ hb9))
            | ((with_reducible refine hC9.out.mono ?_); rintro e w10 ⟨rfl, hb10⟩; have hI10 := And.intro hb10 (And.intro (hI8.out _ hb10).1.1 (And.intro (hI8.out _ hb10).1.2 (hI8.out _ hb10).2)); have hQ1 := Lib.hid (hQ.out _ hb10))
            | ((with_reducible refine hC11.out.mono ?_); rintro e w12 ⟨rfl, hb12⟩; have hI12 := And.intro hb12 (And.intro (hI8.out _ hb12).1.1 (And.intro (hI8.out _ hb12).1.2 (hI8.out _ hb12).2)); have hA12 := Lib.hid (haw8.out _ hb12).1)))
          | (go_at_call 18; (with_reducible refine hQ1.out.mono ?_); rintro e w11 ⟨rfl, hb11⟩; have hI11 := And.intro hb11 (And.intro (hI8.out _ hb11).1.1 (And.intro (hI8.out _ hb11).1.2 (hI8.out _ hb11).2)); have hC11 := Lib.hid (hP.out _ hb11))
          | (go_at_call 10; (with_reducible refine hA12.out.mono ?_); rintro e w13 ⟨rfl, hb13⟩; have hI13 := And.intro hb13 (And.intro (hI8.out _ hb13).1.1 (And.intro (hI8.out _ hb13).1.2 (hI8.out _ hb13).2))))
      go_wp2_with fail
      all_goals go_ret
      all_goals exact ⟨rfl, (haw8.out _ hb13).2⟩
end Go.Proofs.Ytlaafamodaogmaa
/-
  CondTells and CondBack at data that come in: the walks, as the frame takes them; of chapter 27.
  Conditions: as each theorem states them.
-/
namespace Go.Proofs.Ytlaafamodaogmaa
open Go.RowKit
set_option linter.unusedVariables false
theorem condTells_walk (W : World) (a0 : ByteArray) (l0 : a0.data.toList.length ≤ reachBytes)
    (cs1 : Array Value) (x1 : _) (rd1 : rState.ok (Sub.all W) cs1.toList x1) (cs2 : Array Value) (x2 : _) (rd2 : rState.ok (Sub.all W) cs2.toList x2) (hsh : W.ShapedOpen Try.prog) :
    Calls Try.prog 5 #[.string a0, .agg cs1, .agg cs2] W fun e w' => e = .returned (.bool true) ∧ Below W.heap.size W w' := by
  obtain ⟨s1, b1, e1, h1⟩ := raw_of rd1
  obtain ⟨s2, b2, e2, h2⟩ := raw_of rd2
  obtain ⟨c1⟩ := cs1
  obtain ⟨c2⟩ := cs2
  simp only at e1 e2
  subst e1 e2
  obtain ⟨mx, hmx⟩ : ∃ m, W.cell? ⟨0, 0, none⟩ = some (.int .i64 m) := Try.laysM186.s1_3 W hsh
  have hm : MxAt W := ⟨World.block_lt_of_cell? W ⟨0, 0, none⟩ hmx, mx, hmx⟩
  have := condTells_list a0.data.toList l0 s1 s2 b1 b2 W h1 h2 hm
  rw [← strV_eq (s := a0) rfl] at this
  exact this
theorem condBack_walk (W : World) (a0 : ByteArray) (l0 : a0.data.toList.length ≤ reachBytes)
    (cs1 : Array Value) (x1 : _) (rd1 : rState.ok (Sub.all W) cs1.toList x1) (cs2 : Array Value) (x2 : _) (rd2 : rState.ok (Sub.all W) cs2.toList x2) (hsh : W.ShapedOpen Try.prog) :
    Calls Try.prog 6 #[.string a0, .agg cs1, .agg cs2] W fun e w' => e = .returned (.bool true) ∧ Below W.heap.size W w' := by
  obtain ⟨s1, b1, e1, h1⟩ := raw_of rd1
  obtain ⟨s2, b2, e2, h2⟩ := raw_of rd2
  obtain ⟨c1⟩ := cs1
  obtain ⟨c2⟩ := cs2
  simp only at e1 e2
  subst e1 e2
  obtain ⟨mx, hmx⟩ : ∃ m, W.cell? ⟨0, 0, none⟩ = some (.int .i64 m) := Try.laysM186.s1_3 W hsh
  have hm : MxAt W := ⟨World.block_lt_of_cell? W ⟨0, 0, none⟩ hmx, mx, hmx⟩
  have := condBack_list a0.data.toList l0 s1 s2 b1 b2 W h1 h2 hm
  rw [← strV_eq (s := a0) rfl] at this
  exact this
end Go.Proofs.Ytlaafamodaogmaa
