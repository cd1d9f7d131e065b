/-
  CondLogic: two conditions in brackets, with and, or, not: the walk; of chapter 27.
  Conditions: as each theorem states them.
-/
import Derived.Test.YtlaafamodaogmaaRaw
import Derived.Test.YtlaafamodaogmaaCondAw
import Derived.Test.YtlaafamodaogmaaCondE
import Derived.Test.YtlaafamodaogmaaCondKk
import Derived.Deep.RegionHeld3
namespace Go.Proofs.Ytlaafamodaogmaa
open Go.RowKit
set_option linter.unusedVariables false
set_option linter.unusedSimpArgs false
attribute [local go_sem ↓] load_st
theorem ba_add (a b : List UInt8) : (⟨a.toArray⟩ : ByteArray) ++ ⟨b.toArray⟩ = ⟨(a ++ b).toArray⟩ := by apply ByteArray.ext; simp [ByteArray.data_append]
set_option maxHeartbeats 4000000 in
set_option maxRecDepth 100000 in
theorem great27 (t : List UInt8) (s1 s2 : StC) (b1 b2 : StB) (w : World) (h1 : RawAt w s1 b1) (h2 : RawAt w s2 b2) :
    Calls Try.prog 9 #[strV t, .agg s1.cells.toArray, .agg s2.cells.toArray] w fun e w' => e = .returned (.bool (decide (300 < t.length) || greatB s1 b1 || greatB s2 b2)) ∧ Below w.heap.size w w' := by
  obtain ⟨W1, hW1⟩ : ∃ W1, w.alloc (.cells s1.cells.toArray 34) = W1 := ⟨_, rfl⟩
  obtain ⟨W2, hW2⟩ : ∃ W2, W1.alloc (.cells s2.cells.toArray 34) = W2 := ⟨_, rfl⟩
  have hb : Below w.heap.size w W2 := by rw [← hW2, ← hW1]; exact bl_alloc (bl_alloc (Below.refl _ _) _) _
  have hB1 : Blk W2 w.heap.size 34 s1.cells := by rw [← hW2, ← hW1]; exact (Blk.new w _ _).alloc _
  have hB2 : Blk W2 (w.heap.size + 1) 34 s2.cells := by
    rw [show w.heap.size + 1 = W1.heap.size by rw [← hW1]; simp, ← hW2]; exact Blk.new W1 _ _
  have hL := Lib.hid (fun w' (hb : Below W2.heap.size W2 w') => (⟨stLoad_is s1 (hB1.below hb), stLoad_is s2 (hB2.below hb)⟩ : _ ∧ _))
  obtain ⟨L1, L2⟩ := hL.out W2 (Below.refl _ _)
  have g1 := Lib.hid (great_any s1 b1 W2 (h1.below hb))
  have g2 := Lib.hid (fun w' (hw : Below W2.heap.size W2 w') => great_any s2 b2 w' (h2.below (bl_trans hb hw)))
  have hW : (w.alloc (.cells s1.cells.toArray 34)).alloc (.cells s2.cells.toArray 34) = W2 := by rw [hW1, hW2]
  have hsz1 : s1.cells.toArray.size = 27 := by simp [StC.cells]
  have hsz2 : s2.cells.toArray.size = 27 := by simp [StC.cells]
  obtain ⟨q0, hq0⟩ : ∃ q, decide (300 < t.length) = q := ⟨_, rfl⟩
  have q0' : decide ((300 : Int) < t.length) = q0 := by rw [← hq0, decide_eq_decide]; omega
  rw [hq0]
  generalize greatB s1 b1 = B1 at *
  generalize greatB s2 b2 = B2 at *
  replace hW := Lib.hid hW
  replace hb := Lib.hid hb
  clear h1 h2 hB1 hB2 hW1 hW2 hq0
  unfold StC.cells at hW hL g1 g2 L1 L2 ⊢
  go_enter Try.func9, Try.ntmps9
  go_upto_region 1 with fail
  rw [hW.out]
  clear hW
  cases q0 with
  | true =>
    go_wp2_with fail
    go_ret
    exact ⟨ret_bool (by simp), hb.out⟩
  | false =>
    cases B1 with
    | true =>
      go_wp2_with (go_at_call 24; (with_reducible refine g1.out.mono ?_); rintro e w5 ⟨rfl, hb5⟩)
      go_ret
      exact ⟨ret_bool (by simp), bl_trans hb.out hb5⟩
    | false =>
      go_wp2_with (go_at_call 24; first
        | ((with_reducible refine g1.out.mono ?_); rintro e w5 ⟨rfl, hb5⟩; obtain ⟨M1, M2⟩ := hL.out _ hb5)
        | ((with_reducible refine (g2.out _ hb5).mono ?_); rintro e w6 ⟨rfl, hb6⟩))
      go_ret
      exact ⟨ret_bool (by simp), bl_trans hb.out (bl_trans hb5 hb6)⟩
/-- the texts, and what they are to hold -/
def lgT (a b : List UInt8) : List (List UInt8) := [[40] ++ a ++ [41, 32, 97, 110, 100, 32, 40] ++ b ++ [41], [40] ++ a ++ [41, 111, 114, 40] ++ b ++ [41], [110, 111, 116, 32, 40] ++ a ++ [41], [110, 111, 116, 40] ++ a ++ [41, 32, 111, 114, 32, 110, 111, 116, 32, 40] ++ b ++ [41], a ++ [32, 111, 114, 32] ++ b, [32, 32] ++ a ++ [32, 32]]
def lgW (p q : Bool) : List Bool := [p && q, p || q, !p, !(p && q), p || q, p]
theorem lg_all {a b : List UInt8} {phi psi : CM.M} (ha : CM.parseS a = .ok phi) (hb : CM.parseS b = .ok psi) (hl : a.length + b.length ≤ 300) (v w : CM.Sv) : ∀ i, i < 6 →
    (∃ chi, CM.parseS ((lgT a b).getD i []) = .ok chi ∧ chi v w = (lgW (phi v w) (psi v w)).getD i false) ∨ (i < 4 ∧ ∃ e, CM.parseS ((lgT a b).getD i []) = .error (e, 7)) := by
  intro i hi
  rcases (by omega : i = 0 ∨ i = 1 ∨ i = 2 ∨ i = 3 ∨ i = 4 ∨ i = 5) with rfl | rfl | rfl | rfl | rfl | rfl
  · rcases CM.parse_and ha hb hl with h | h
    · exact .inl ⟨_, h, rfl⟩
    · exact .inr ⟨by omega, h⟩
  · rcases CM.parse_or ha hb hl with h | h
    · exact .inl ⟨_, h, rfl⟩
    · exact .inr ⟨by omega, h⟩
  · rcases CM.parse_not ha (by omega) with h | h
    · exact .inl ⟨_, h, rfl⟩
    · exact .inr ⟨by omega, h⟩
  · rcases CM.parse_nor ha hb hl with h | h
    · refine .inl ⟨_, h, ?_⟩
      show (!phi v w || !psi v w) = !(phi v w && psi v w)
      cases phi v w <;> rfl
    · exact .inr ⟨by omega, h⟩
  · exact .inl ⟨_, CM.parse_alt ha hb hl, rfl⟩
  · exact .inl ⟨_, CM.parse_pad ha (by omega), rfl⟩
set_option maxHeartbeats 8000000 in
set_option maxRecDepth 100000 in
theorem condLogic_list (a b : List UInt8) (ha : a.length ≤ 140737488351232) (hb : b.length ≤ 140737488351232) (s1 s2 : StC) (b1 b2 : StB) (W : World) (hr1 : RawAt W s1 b1) (hr2 : RawAt W s2 b2) (hm : MxAt W) :
    Calls Try.prog 3 #[strV a, strV b, .agg s1.cells.toArray, .agg s2.cells.toArray] W fun e w' => e = .returned (.bool true) ∧ Below W.heap.size W w' := by
  obtain ⟨W1, hW1⟩ : ∃ W1, W.alloc (.cells s1.cells.toArray 34) = W1 := ⟨_, rfl⟩
  obtain ⟨W2, hW2⟩ : ∃ W2, W1.alloc (.cells s2.cells.toArray 34) = W2 := ⟨_, rfl⟩
  have hB : Below W.heap.size W W2 := by rw [← hW2, ← hW1]; exact bl_alloc (bl_alloc (Below.refl _ _) _) _
  have hB1 : Blk W2 W.heap.size 34 s1.cells := by rw [← hW2, ← hW1]; exact (Blk.new W _ _).alloc _
  have hB2 : Blk W2 (W.heap.size + 1) 34 s2.cells := by
    rw [show W.heap.size + 1 = W1.heap.size by rw [← hW1]; simp, ← hW2]; exact Blk.new W1 _ _
  have hL := Lib.hid (fun w' (hb : Below W2.heap.size W2 w') => (⟨stLoad_is s1 (hB1.below hb), stLoad_is s2 (hB2.below hb)⟩ : _ ∧ _))
  obtain ⟨L1, L2⟩ := hL.out W2 (Below.refl _ _)
  have hW : (W.alloc (.cells s1.cells.toArray 34)).alloc (.cells s2.cells.toArray 34) = W2 := by rw [hW1, hW2]
  have hsz1 : s1.cells.toArray.size = 27 := by simp [StC.cells]
  have hsz2 : s2.cells.toArray.size = 27 := by simp [StC.cells]
  have hgr := Lib.hid (great27 (a ++ b) s1 s2 b1 b2 W2 (hr1.below hB) (hr2.below hB))
  have haw := Lib.hid (fun w' (hw : Below W2.heap.size W2 w') => awake27 w' (hm.below (bl_trans hB hw)))
  have had : (⟨a.toArray⟩ : ByteArray) ++ ⟨b.toArray⟩ = ⟨(a ++ b).toArray⟩ := ba_add a b
  have hlab : ¬ 9223372036854775807 < a.length + b.length := by omega
  replace hW := Lib.hid hW
  obtain ⟨G, hG⟩ : ∃ G, (decide (300 < (a ++ b).length) || greatB s1 b1 || greatB s2 b2) = G := ⟨_, rfl⟩
  rw [hG] at hgr
  have hsv := Lib.hid (fun (hg : G = false) w' (hw : Below W2.heap.size W2 w') => (by
    rw [hg] at hG
    simp only [Bool.or_eq_false_iff] at hG
    exact ⟨(hr1.sv hG.1.2).below (bl_trans hB hw), (hr2.sv hG.2).below (bl_trans hB hw)⟩ : StSv w' s1 (svOf s1 b1) ∧ StSv w' s2 (svOf s2 b2)))
  have hlen := Lib.hid (fun (hg : G = false) => (by
    rw [hg] at hG
    simp only [Bool.or_eq_false_iff, decide_eq_false_iff_not, Nat.not_lt, List.length_append] at hG
    exact hG.1.1 : a.length + b.length ≤ 300))
  replace hG := Lib.hid hG
  have hmx := Lib.hid (fun w' (hw : Below W2.heap.size W2 w') => hm.below (bl_trans hB hw))
  replace hB := Lib.hid hB
  clear hr1 hr2 hB1 hB2 hW1 hW2 hm
  have hpa := Lib.hid (fun w' => cparse_any a w')
  have hpb := Lib.hid (fun w' => cparse_any b w')
  unfold StC.cells at hW hL L1 L2 hgr ⊢
  go_enter Try.func3, Try.ntmps3
  go_upto_region 1 with fail
  rw [hW.out]
  clear hW
  cases G with
  | true =>
    go_wp2_with (first
      | (go_at_call 9; (with_reducible refine hgr.out.mono ?_); rintro e w5 ⟨rfl, hb5⟩)
      | (go_at_call 10; refine (haw.out _ hb5).mono ?_; rintro e w6 ⟨rfl, hb6⟩))
    all_goals go_ret
    all_goals exact ⟨rfl, bl_trans hB.out (bl_trans hb5 hb6)⟩
  | false =>
    have hl300 := hlen.out rfl
    have hsv2 := Lib.hid (hsv.out rfl)
    clear hsv
    go_upto_region 3 with (go_at_call 9; (with_reducible refine hgr.out.mono ?_); rintro e w5 ⟨rfl, hb5⟩)
    clear hgr L1 L2 had
    have hfin := Lib.hid (fun w' (hw : Below W2.heap.size W2 w') => (awake27 w' (hmx.out w' hw)).mono (R' := fun e w2 => e = .returned (.bool true) ∧ Below W.heap.size W w2) (fun e w2 he => ⟨he.1, bl_trans hB.out (bl_trans hw he.2)⟩))
    clear hlen hG haw hB
    cases hpA : CM.parseS a with
    | error e =>
      obtain ⟨p, x⟩ := e
      have hx := CM.parse_er hpA
      have q1 : (x != 0) = true := by simpa using hx
      have cA := fun w' => (by have := hpa.out w'; unfold ParseIs at this; rw [hpA] at this; exact this : Calls Try.prog 11 #[strV a] w' fun e w2 => e = .returned (.tuple #[.pointer none, .int .i64 (p : Int), .int .i64 x]) ∧ Below w'.heap.size w' w2)
      replace cA := Lib.hid cA
      replace hx := Lib.hid hx
      clear hpa hpA
      cases hpB : CM.parseS b with
      | error e =>
        obtain ⟨p2, x2⟩ := e
        have cB := fun w' => (by have := hpb.out w'; unfold ParseIs at this; rw [hpB] at this; exact this : Calls Try.prog 11 #[strV b] w' fun e w2 => e = .returned (.tuple #[.pointer none, .int .i64 (p2 : Int), .int .i64 x2]) ∧ Below w'.heap.size w' w2)
        replace cB := Lib.hid cB
        clear hpb hpB
        go_wp2_with (first
          | (go_at_call 11; first
            | ((with_reducible refine (cA.out _).mono ?_); rintro e w6 ⟨rfl, hb6⟩)
            | ((with_reducible refine (cB.out _).mono ?_); rintro e w7 ⟨rfl, hb7⟩))
          | (go_at_call 10; refine (hfin.out _ (bl_trans hb5 (bl_trans hb6 hb7))).mono ?_; rintro e w8 ⟨rfl, hb8⟩))
        all_goals go_ret
        all_goals exact ⟨rfl, hb8⟩
      | ok psi =>
        have cB := fun w' => (by have := hpb.out w'; unfold ParseIs at this; rw [hpB] at this; exact this : Calls Try.prog 11 #[strV b] w' fun e w2 => ∃ c, e = .returned (.tuple #[.pointer (some ⟨c, 0, none⟩), .int .i64 0, .int .i64 0]) ∧ CondIs w2 c b psi ∧ w'.heap.size ≤ c ∧ Below w'.heap.size w' w2)
        replace cB := Lib.hid cB
        clear hpb hpB
        go_wp2_with (first
          | (go_at_call 11; first
            | ((with_reducible refine (cA.out _).mono ?_); rintro e w6 ⟨rfl, hb6⟩)
            | ((with_reducible refine (cB.out _).mono ?_); rintro e w7 ⟨c2, rfl, _, _, hb7⟩))
          | (go_at_call 10; refine (hfin.out _ (bl_trans hb5 (bl_trans hb6 hb7))).mono ?_; rintro e w8 ⟨rfl, hb8⟩))
        all_goals go_ret
        all_goals exact ⟨rfl, hb8⟩
    | ok phi =>
      have cA := fun w' => (by have := hpa.out w'; unfold ParseIs at this; rw [hpA] at this; exact this : Calls Try.prog 11 #[strV a] w' fun e w2 => ∃ c, e = .returned (.tuple #[.pointer (some ⟨c, 0, none⟩), .int .i64 0, .int .i64 0]) ∧ CondIs w2 c a phi ∧ w'.heap.size ≤ c ∧ Below w'.heap.size w' w2)
      replace cA := Lib.hid cA
      clear hpa
      cases hpB : CM.parseS b with
      | error e =>
        obtain ⟨p2, x2⟩ := e
        have hx := CM.parse_er hpB
        have q1 : (x2 != 0) = true := by simpa using hx
        have cB := fun w' => (by have := hpb.out w'; unfold ParseIs at this; rw [hpB] at this; exact this : Calls Try.prog 11 #[strV b] w' fun e w2 => e = .returned (.tuple #[.pointer none, .int .i64 (p2 : Int), .int .i64 x2]) ∧ Below w'.heap.size w' w2)
        replace cB := Lib.hid cB
        replace hx := Lib.hid hx
        clear hpb hpB hpA
        go_wp2_with (first
          | (go_at_call 11; first
            | ((with_reducible refine (cA.out _).mono ?_); rintro e w6 ⟨c1, rfl, _, _, hb6⟩)
            | ((with_reducible refine (cB.out _).mono ?_); rintro e w7 ⟨rfl, hb7⟩))
          | (go_at_call 10; refine (hfin.out _ (bl_trans hb5 (bl_trans hb6 hb7))).mono ?_; rintro e w8 ⟨rfl, hb8⟩))
        all_goals go_ret
        all_goals exact ⟨rfl, hb8⟩
      | ok psi =>
        have cB := fun w' => (by have := hpb.out w'; unfold ParseIs at this; rw [hpB] at this; exact this : Calls Try.prog 11 #[strV b] w' fun e w2 => ∃ c, e = .returned (.tuple #[.pointer (some ⟨c, 0, none⟩), .int .i64 0, .int .i64 0]) ∧ CondIs w2 c b psi ∧ w'.heap.size ≤ c ∧ Below w'.heap.size w' w2)
        replace cB := Lib.hid cB
        clear hpb
        have hpa := Lib.hid (fun t w' => cparse_any t w')
        have hall := Lib.hid (lg_all hpA hpB hl300 (svOf s1 b1) (svOf s2 b2))
        clear hpA hpB
        go_upto_region 7 with (go_at_call 11; first
            | ((with_reducible refine (cA.out _).mono ?_); rintro e w6 ⟨c1, rfl, hC1, _, hb6⟩)
            | ((with_reducible refine (cB.out _).mono ?_); rintro e w7 ⟨c2, rfl, hC2, _, hb7⟩))
        have hb57 := bl_trans hb5 (bl_trans hb6 hb7)
        have hP := Lib.hid (fun w' (hw : Below w7.heap.size w7 w') => (Calls.mono (holds_any ((hC1.below hb7).below hw) (hsv2.out w' (bl_trans hb57 hw)).1 (hsv2.out w' (bl_trans hb57 hw)).2 (hmx.out w' (bl_trans hb57 hw))) (fun e w2 he => ⟨he.1, bl_trans hw he.2⟩) : Calls Try.prog 12 #[.pointer (some ⟨c1, 0, none⟩), .agg s1.cells.toArray, .agg s2.cells.toArray] w' fun e w2 => e = .returned (.bool (phi (svOf s1 b1) (svOf s2 b2))) ∧ Below w7.heap.size w7 w2))
        have hQ := Lib.hid (fun w' (hw : Below w7.heap.size w7 w') => (Calls.mono (holds_any (hC2.below hw) (hsv2.out w' (bl_trans hb57 hw)).1 (hsv2.out w' (bl_trans hb57 hw)).2 (hmx.out w' (bl_trans hb57 hw))) (fun e w2 he => ⟨he.1, bl_trans hw he.2⟩) : Calls Try.prog 12 #[.pointer (some ⟨c2, 0, none⟩), .agg s1.cells.toArray, .agg s2.cells.toArray] w' fun e w2 => e = .returned (.bool (psi (svOf s1 b1) (svOf s2 b2))) ∧ Below w7.heap.size w7 w2))
        unfold StC.cells at hP hQ
        clear hC1 hC2 cA cB
        have hL7 := Lib.hid (fun w' (hw : Below w7.heap.size w7 w') => hL.out w' (bl_trans hb57 hw))
        have sB : Below w7.heap.size w7 w7.drew := bl_drew (Below.refl _ _)
        have sI := And.intro sB (hL7.out _ sB)
        generalize phi (svOf s1 b1) (svOf s2 b2) = P at hP hall
        generalize psi (svOf s1 b1) (svOf s2 b2) = Q at hQ hall
        go_region_held3 (fun w' => Below w7.heap.size w7 w' ∧ (stLoad ⟨W.heap.size, 0, none⟩).run Try.prog w' = .ok (.agg #[s1.pat.v, s1.hold.v, .bool s1.nl, .int .i64 s1.line, .bool s1.subst, .int .i64 s1.last, .int .i64 s1.next, .int .i64 s1.opn, .int .i64 s1.cur, .int .i64 s1.missing, s1.rest.v, s1.out.v, .bool s1.short, s1.place.v, .bool s1.pshort, .int .i64 s1.phase, .int .i64 s1.pc, .int .i64 s1.exit, .int .i64 s1.stop, .int .i64 s1.err, .bool s1.silent, .bool s1.quit, .bool s1.again, s1.active.v, s1.waits.v, s1.files.v, s1.lacks.v]) w' ∧ (stLoad ⟨W.heap.size + 1, 0, none⟩).run Try.prog w' = .ok (.agg #[s2.pat.v, s2.hold.v, .bool s2.nl, .int .i64 s2.line, .bool s2.subst, .int .i64 s2.last, .int .i64 s2.next, .int .i64 s2.opn, .int .i64 s2.cur, .int .i64 s2.missing, s2.rest.v, s2.out.v, .bool s2.short, s2.place.v, .bool s2.pshort, .int .i64 s2.phase, .int .i64 s2.pc, .int .i64 s2.exit, .int .i64 s2.stop, .int .i64 s2.err, .bool s2.silent, .bool s2.quit, .bool s2.again, s2.active.v, s2.waits.v, s2.files.v, s2.lacks.v]) w') (first | with_reducible exact hI | with_reducible exact sI)
          (first | (go_at_call 12; (first | ((with_reducible refine (hP.out _ sB).mono ?_); rintro e w8 ⟨rfl, hb8⟩; have hI := And.intro hb8 (hL7.out _ hb8)) | ((with_reducible refine (hQ.out _ hb8).mono ?_); rintro e w9 ⟨rfl, hb9⟩; have hI := And.intro hb9 (hL7.out _ hb9)))))
        have la : a.length ≤ 300 := by omega
        have lb : b.length ≤ 300 := by omega
        clear hP hQ sI sB
        go_upto_region 9 with fail
        generalize hWt : World.alloc w9 _ = Wt
        simp only [ba_add] at hWt
        have hT : Blk Wt w9.heap.size 9 ((lgT a b).map strV) := by rw [← hWt]; exact Blk.new w9 9 ((lgT a b).map strV)
        have hbt : Below w7.heap.size w7 Wt := by rw [← hWt]; exact bl_alloc hb9 _
        generalize w9.heap.size = gT at hT ⊢
        clear hWt hI hb9 hb8
        go_cut [18] from 86 to 106 (fun s18 wx => ∃ g, s18 = .slice (some ⟨g, 0, none⟩) 6 6 ∧ Blk wx g 4 ((lgW P Q).map .bool) ∧ Below Wt.heap.size Wt wx)
        case first =>
          clear hall hL7 hsv2 hfin hmx hpa hT
          cases P <;> cases Q
          all_goals go_wp2_with fail
          all_goals go_meet
          all_goals first
            | exact ⟨_, rfl, Blk.new Wt 4 ((lgW true true).map .bool), bl_alloc (Below.refl _ _) _⟩
            | exact ⟨_, rfl, Blk.new Wt 4 ((lgW true false).map .bool), bl_alloc (Below.refl _ _) _⟩
            | exact ⟨_, rfl, Blk.new Wt 4 ((lgW false true).map .bool), bl_alloc (Below.refl _ _) _⟩
            | exact ⟨_, rfl, Blk.new Wt 4 ((lgW false false).map .bool), bl_alloc (Below.refl _ _) _⟩
        case rest =>
        obtain ⟨gW, rfl, hWk, hbw⟩ := hcut
        obtain ⟨W9, hw9⟩ : ∃ w1 : World, w1 = wc := ⟨_, rfl⟩
        subst hw9
        have hT9 := hT.below hbw
        have hb79 := bl_trans hbt hbw
        clear hT hbt hbw
        go_wp2_with fail
        go_loopg [19] 6 (fun gh v wr => ∃ i : Nat, gh = 6 - i ∧ v = .int .i64 (i : Int) ∧ i ≤ 6 ∧ Hid (Below W9.heap.size W9 wr))
        case atStart => exact ⟨0, rfl, rfl, by omega, Lib.hid (Below.refl _ _)⟩
        case round =>
          obtain ⟨i, rfl, rfl, hi, hbr⟩ := hrel
          have hb7r := bl_trans hb79 hbr.out
          by_cases hlt : i < 6
          · have q0 : decide ((i : Int) < 6) = true := by rw [decide_eq_true_eq]; omega
            have z0 : (0 : Int) ≤ (i : Int) := by omega
            have z1 : (i : Int) < 6 := by omega
            have hwr : IntKind.i64.wrap ((i : Int) + 1) = (i : Int) + 1 := IntWalk.i64_in _ (by omega)
            obtain ⟨t, ht⟩ : ∃ t, (lgT a b).getD i [] = t := ⟨_, rfl⟩
            obtain ⟨V, hV⟩ : ∃ V, (lgW P Q).getD i false = V := ⟨_, rfl⟩
            have k0 : wr.cell? ⟨gT, i, none⟩ = some (strV t) := by
              rw [(hT9.below hbr.out).cell i, ← ht]
              rcases (by omega : i = 0 ∨ i = 1 ∨ i = 2 ∨ i = 3 ∨ i = 4 ∨ i = 5) with rfl | rfl | rfl | rfl | rfl | rfl <;> rfl
            have k1 : wr.cell? ⟨gW, i, none⟩ = some (.bool V) := by
              rw [(hWk.below hbr.out).cell i, ← hV]
              rcases (by omega : i = 0 ∨ i = 1 ∨ i = 2 ∨ i = 3 ∨ i = 4 ∨ i = 5) with rfl | rfl | rfl | rfl | rfl | rfl <;> rfl
            have lW : gW < wr.heap.size := (hWk.below hbr.out).lt
            have hpt := hpa.out t wr
            have hat := hall.out i hlt
            rw [ht, hV] at hat
            have hb29 := Lib.hid (bl_trans hb57 hb7r)
            replace hbr := Lib.hid hbr
            replace hT9 := Lib.hid hT9
            replace hWk := Lib.hid hWk
            replace hb7r := Lib.hid hb7r
            replace hb79 := Lib.hid hb79
            replace ht := Lib.hid ht
            replace hV := Lib.hid hV
            clear hpa hall
            rcases hat with ⟨chi, hc, hv⟩ | ⟨h4, ⟨e, hc⟩⟩
            · have cP : Calls Try.prog 11 #[strV t] wr fun e w2 => ∃ c, e = .returned (.tuple #[.pointer (some ⟨c, 0, none⟩), .int .i64 0, .int .i64 0]) ∧ CondIs w2 c t chi ∧ wr.heap.size ≤ c ∧ Below wr.heap.size wr w2 := by
                unfold ParseIs at hpt; rw [hc] at hpt; exact hpt
              replace cP := Lib.hid cP
              clear hpt hc
              go_upto_region 15 with (go_at_call 11; (with_reducible refine cP.out.mono ?_); rintro e w8 ⟨c, rfl, hC, _, hb8⟩)
              have cH := Lib.hid (fun w' (hw : Below w8.heap.size w8 w') => (by
                have hb2w := bl_trans hb29.out (bl_trans hb8 hw)
                rw [← hv]
                exact Calls.mono (holds_any (hC.below hw) (hsv2.out w' hb2w).1 (hsv2.out w' hb2w).2 (hmx.out w' hb2w)) (fun e w2 he => ⟨he.1, bl_trans hw he.2⟩) : Calls Try.prog 12 #[.pointer (some ⟨c, 0, none⟩), .agg s1.cells.toArray, .agg s2.cells.toArray] w' fun e w2 => e = .returned (.bool V) ∧ Below w8.heap.size w8 w2))
              unfold StC.cells at cH
              have lW8 : gW < w8.heap.size := Nat.lt_of_lt_of_le lW hb8.size
              have hL9 := Lib.hid (fun w' (hw : Below w8.heap.size w8 w') => (⟨hL7.out w' (bl_trans hb7r.out (bl_trans hb8 hw)), (hw.cell (p := ⟨gW, i, none⟩) lW8).trans ((hb8.cell (p := ⟨gW, i, none⟩) lW).trans k1)⟩ : _ ∧ _))
              have sB : Below w8.heap.size w8 w8.drew := bl_drew (Below.refl _ _)
              have sI := And.intro sB (hL9.out _ sB)
              have hb8' := Lib.hid (bl_trans hbr.out hb8)
              clear hC hv hb8 cP
              go_region_held3 (fun w' => Below w8.heap.size w8 w' ∧ ((stLoad ⟨W.heap.size, 0, none⟩).run Try.prog w' = .ok (.agg #[s1.pat.v, s1.hold.v, .bool s1.nl, .int .i64 s1.line, .bool s1.subst, .int .i64 s1.last, .int .i64 s1.next, .int .i64 s1.opn, .int .i64 s1.cur, .int .i64 s1.missing, s1.rest.v, s1.out.v, .bool s1.short, s1.place.v, .bool s1.pshort, .int .i64 s1.phase, .int .i64 s1.pc, .int .i64 s1.exit, .int .i64 s1.stop, .int .i64 s1.err, .bool s1.silent, .bool s1.quit, .bool s1.again, s1.active.v, s1.waits.v, s1.files.v, s1.lacks.v]) w' ∧ (stLoad ⟨W.heap.size + 1, 0, none⟩).run Try.prog w' = .ok (.agg #[s2.pat.v, s2.hold.v, .bool s2.nl, .int .i64 s2.line, .bool s2.subst, .int .i64 s2.last, .int .i64 s2.next, .int .i64 s2.opn, .int .i64 s2.cur, .int .i64 s2.missing, s2.rest.v, s2.out.v, .bool s2.short, s2.place.v, .bool s2.pshort, .int .i64 s2.phase, .int .i64 s2.pc, .int .i64 s2.exit, .int .i64 s2.stop, .int .i64 s2.err, .bool s2.silent, .bool s2.quit, .bool s2.again, s2.active.v, s2.waits.v, s2.files.v, s2.lacks.v]) w') ∧ w'.cell? ⟨gW, i, none⟩ = some (.bool V)) (first | with_reducible exact hI | with_reducible exact sI)
                (first | (go_at_call 12; (with_reducible refine (cH.out _ sB).mono ?_); rintro e w9 ⟨rfl, hb9⟩; have hI := And.intro hb9 (hL9.out _ hb9)))
              go_wp2_with fail
              all_goals go_roundg (6 - (i + 1))
              all_goals first
                | omega
                | exact ⟨i + 1, rfl, rfl, by omega, Lib.hid (bl_trans hb8'.out hb9)⟩
            · have cP : Calls Try.prog 11 #[strV t] wr fun e' w2 => e' = .returned (.tuple #[.pointer none, .int .i64 (e : Int), .int .i64 7]) ∧ Below wr.heap.size wr w2 := by
                unfold ParseIs at hpt; rw [hc] at hpt; exact hpt
              have q1 : decide ((i : Int) < 4) = true := by rw [decide_eq_true_eq]; omega
              replace cP := Lib.hid cP
              clear hpt hc
              go_wp2_with (go_at_call 11; (with_reducible refine cP.out.mono ?_); rintro e w8 ⟨rfl, hb8⟩)
              all_goals go_roundg (6 - (i + 1))
              all_goals first
                | omega
                | exact ⟨i + 1, rfl, rfl, by omega, Lib.hid (bl_trans hbr.out hb8)⟩
          · obtain rfl : i = 6 := by omega
            have hb29 := bl_trans hb57 hb7r
            clear hL7 hsv2 hpa hall
            go_wp2_with (go_at_call 10; refine (hfin.out _ hb29).mono ?_; rintro e w8 ⟨rfl, hb8⟩)
            go_ret
            exact ⟨rfl, hb8⟩
end Go.Proofs.Ytlaafamodaogmaa
/-
  CondLogic at data that come in: the walk, as the frame takes it; of chapter 27.
  Conditions: as each theorem states them.
-/
namespace Go.Proofs.Ytlaafamodaogmaa
open Go.RowKit
set_option linter.unusedVariables false
theorem condLogic_walk (W : World) (a0 : ByteArray) (l0 : a0.data.toList.length ≤ reachBytes) (a1 : ByteArray) (l1 : a1.data.toList.length ≤ reachBytes)
    (cs2 : Array Value) (x2 : _) (rd2 : rState.ok (Sub.all W) cs2.toList x2) (cs3 : Array Value) (x3 : _) (rd3 : rState.ok (Sub.all W) cs3.toList x3) (hsh : W.ShapedOpen Try.prog) :
    Calls Try.prog 3 #[.string a0, .string a1, .agg cs2, .agg cs3] W fun e w' => e = .returned (.bool true) ∧ Below W.heap.size W w' := by
  obtain ⟨s1, b1, e1, h1⟩ := raw_of rd2
  obtain ⟨s2, b2, e2, h2⟩ := raw_of rd3
  obtain ⟨c2⟩ := cs2
  obtain ⟨c3⟩ := cs3
  simp only at e1 e2
  subst e1 e2
  obtain ⟨mx, hmx⟩ : ∃ m, W.cell? ⟨0, 0, none⟩ = some (.int .i64 m) := Try.laysM186.s1_3 W hsh
  have hm : MxAt W := ⟨World.block_lt_of_cell? W ⟨0, 0, none⟩ hmx, mx, hmx⟩
  have := condLogic_list a0.data.toList a1.data.toList l0 l1 s1 s2 b1 b2 W h1 h2 hm
  rw [← strV_eq (s := a0) rfl, ← strV_eq (s := a1) rfl] at this
  exact this
end Go.Proofs.Ytlaafamodaogmaa
