/-
  StateFields, of chapter 20: the walk.
  Conditions: as each theorem states them.
-/
import Derived.Test.YtepdfkgadigafaaGreatDoorAw20
import Derived.Test.YtepdfkgadigafaaGreatDoorFrC
namespace Go.Proofs.YtepdfkgadigafaaGreatDoor
open Go.RowKit Go.Sort
set_option linter.unusedVariables false
set_option linter.unusedSimpArgs false
attribute [local go_sem ↓] load_st store_st
theorem zero_look : LookV zeroV := by
  refine ⟨?_, fun x hx => by simp [zeroV] at hx, by decide +kernel⟩
  constructor <;> (unfold FM.I64 zeroV; simp [zeroC, StC.sc])
/-- ref.Texts of two lists, told alike -/
theorem texts_10 (xs : List (List UInt8)) (hx10 : xs.length = 10) (hlx : Lens 9000 xs) (X : World) (a b : Option Addr) (c d : Nat) (h1 : TxAt (fun _ => True) false X a xs) (h2 : TxAt (fun _ => True) false X b xs) :
    Calls Tryz.prog 17 #[.slice a 10 c, .slice b 10 d] X fun e w' => e = .returned (.bool true) ∧ Below X.heap.size X w' := by
  have := texts_any a b xs xs c d X (by omega) (by omega) (fun i hi => by have := hlx i hi; omega) (fun i hi => by have := hlx i hi; omega) h1 h2
  rw [hx10, show txB xs xs = true by simp [txB]] at this
  refine this.mono ?_
  rintro e w' ⟨rfl, m, rfl⟩
  exact ⟨rfl, bl_drewN (Below.refl _ _) _⟩
set_option maxHeartbeats 8000000 in
set_option maxRecDepth 100000 in
theorem stateFields_main (w : World) (s : StC) (V : StV) {lo hi_ : Nat} (h : SIn lo hi_ s V w) (hp : Pow w) (hE : ErrAt w) (hk : ScOk V.sc)
    (hfn : ∀ x ∈ V.files, x.1.length ≤ 140737488351232) (hl : LookV V) :
    Calls Tryz.prog 5 #[.agg s.cells.toArray] w fun e w' => e = .returned (.bool true) ∧ Below w.heap.size w w' := by
  have hsm := small_of hl.gr
  obtain ⟨u1, u2, u3, u4⟩ : V.waits.length ≤ 1000000 ∧ (∀ p ∈ V.waits, p.2.length ≤ 1000000) ∧ V.files.length ≤ 1000000 ∧ ∀ p ∈ V.files, p.2.length ≤ 1000000 := ⟨Nat.le_trans hsm.waits (by decide), fun p hp => Nat.le_trans (hsm.wait p hp) (by decide), Nat.le_trans hsm.files (by decide), fun p hp => Nat.le_trans (hsm.file p hp).1 (by decide)⟩
  obtain ⟨xs, hxs⟩ : ∃ xs, FM.fieldsS V = xs := ⟨_, rfl⟩
  have hx10 : xs.length = 10 := by rw [← hxs]; rfl
  have lx := hl.len
  have f1 := FM.from_fields V hl.sc hl.w64
  have g1 := fun X (hX : Below w.heap.size w X) => great_sin (h.below hX) hk hfn
  rw [hl.gr] at g1
  have hF1 := fun X (hX : Below w.heap.size w X) => fields_look (h.below hX) (hp.below hX) hl
  have hF2 := fun X (hX : Below w.heap.size w X) (q : StC) (l1 l2 : Nat) (c1 : SIn l1 l2 q V X) => fields_look c1 (hp.below hX) hl
  have hFz := fun X (hX : Below w.heap.size w X) => fields_look (zero_sin 0 X.heap.size X (Nat.le_refl _)) (hp.below hX) zero_look
  rw [hxs] at lx f1
  simp only [hxs] at hF1 hF2
  have hR1 := fun X (hX : Below w.heap.size w X) (a : Option Addr) (c : Nat) (c1 : TxAt (fun _ => True) false X a xs) => from_list a c xs X (hp.below hX) (hE.below hX) hx10 (fun z hz => by obtain ⟨j, hj, rfl⟩ := List.mem_iff_getElem.1 hz; exact Nat.le_trans (lx j hj) (by decide)) c1
  rw [f1] at hR1
  unfold FromIs at hR1
  simp only [Option.isSome_some, Option.getD_some] at hR1
  have hm1 := fun X (hX : Below w.heap.size w X) (q : StC) (l1 l2 : Nat) (c1 : SIn l1 l2 q V X) => same_dec X q s V V c1 (h.below hX) u1 u2 u3 u4 u1 u2 u3 u4
  rw [decide_eq_true rfl] at hm1
  have hT := texts_10 xs hx10 lx
  have haw := fun X => awake20 X
  obtain ⟨W1, hW1⟩ : ∃ W1, w.alloc (.cells s.cells.toArray 34) = W1 := ⟨_, rfl⟩
  have bA : Blk W1 w.heap.size 34 s.cells := by rw [← hW1]; exact Blk.new w _ _
  have hbW : Below w.heap.size w W1 := by rw [← hW1]; exact bl_alloc (Below.refl _ _) _
  have hst := fun X (hX : Below W1.heap.size W1 X) => stLoad_is s (bA.below hX)
  obtain ⟨C, hC⟩ : ∃ C, s.cells = C := ⟨_, rfl⟩
  rw [hC] at g1 hF1 hm1 hst hW1 ⊢
  clear h hp hE hk hfn hl hsm u1 u2 u3 u4 lx f1 hC bA hxs hx10
  replace g1 := Lib.hid g1
  replace hF1 := Lib.hid hF1
  replace hF2 := Lib.hid hF2
  replace hFz := Lib.hid hFz
  replace hR1 := Lib.hid hR1
  replace hm1 := Lib.hid hm1
  replace hT := Lib.hid hT
  replace hst := Lib.hid hst
  replace haw := Lib.hid haw
  replace hW1 := Lib.hid hW1
  replace hbW := Lib.hid hbW
  go_enter Tryz.func5, Tryz.ntmps5
  go_upto_region 1 with fail
  rw [hW1.out]
  clear hW1
  have hb := Below.refl W1.heap.size W1
  have L1 := hst.out _ hb
  go_upto_region 3 with (go_at_call 7; (with_reducible refine (g1.out _ (bl_trans hbW.out hb)).mono ?_); rintro e X1 ⟨rfl, hy⟩; replace hb := bl_trans hb hy; clear hy; replace L1 := hst.out _ hb)
  go_upto_region 4 with (go_at_call 11; (with_reducible refine (hF1.out _ (bl_trans hbW.out hb)).mono ?_); rintro e X2 ⟨fa, fc, rfl, hf2, hy⟩; replace hb := bl_trans hb hy; clear hy; replace L1 := hst.out _ hb)
  replace hf2 := Lib.hid hf2
  go_upto_region 5 with (go_at_call 13; (with_reducible refine (hR1.out _ (bl_trans hbW.out hb) _ _ hf2.out).mono ?_); rintro e X7 ⟨s1, rfl, hs7, hy⟩; obtain ⟨Z1, S1, hZ1, hbZ1⟩ := st_new9 X7 s1; replace hb := bl_trans (bl_trans hb hy) hbZ1; have hsi1 := Lib.hid (hs7.below hbZ1); have hyZ := Lib.hid ((hf2.out.below hy).below hbZ1); replace L1 := hst.out _ hb; obtain ⟨D1, hD1⟩ : ∃ D, s1.cells.toArray = D := ⟨_, rfl⟩; rw [hD1] at S1 ⊢; clear hs7 hy hbZ1; replace hZ1 := Lib.hid hZ1; replace hD1 := Lib.hid hD1)
  have L3 := stLoad_is s1 hZ1.out
  rw [hD1.out] at L3
  have hq1 := fun X (hX : Below Z1.heap.size Z1 X) => hm1.out X (bl_trans hbW.out (bl_trans hb hX)) s1 _ _ (hsi1.out.below hX)
  have hq2 := fun X (hX : Below Z1.heap.size Z1 X) => hF2.out X (bl_trans hbW.out (bl_trans hb hX)) s1 _ _ (hsi1.out.below hX)
  have hqz := fun X (hX : Below Z1.heap.size Z1 X) => hFz.out X (bl_trans hbW.out (bl_trans hb hX))
  have hL := fun X (hX : Below Z1.heap.size Z1 X) => (⟨stLoad_is s1 (hZ1.out.below hX), hst.out _ (bl_trans hb hX), hyZ.out.below hX⟩ : (stLoad ⟨X7.heap.size, 0, none⟩).run Tryz.prog X = .ok (.agg s1.cells.toArray) X ∧ (stLoad ⟨w.heap.size, 0, none⟩).run Tryz.prog X = .ok (.agg C.toArray) X ∧ TxAt (fun _ => True) false X fa xs)
  rw [hD1.out] at hq1 hq2 hL
  simp only [zeroC, StC.cells, Sl3.v] at hqz
  replace hq1 := Lib.hid hq1
  replace hq2 := Lib.hid hq2
  replace hqz := Lib.hid hqz
  replace hL := Lib.hid hL
  have hd := Below.refl Z1.heap.size Z1
  clear hsi1 hZ1 hm1 hst hR1 hF1 hF2 g1 hf2 hyZ hD1 hFz
  go_wp2_with (first
    | (go_at_call 14; (with_reducible refine (hq1.out _ hd).mono ?_); rintro e Y1 ⟨rfl, hy⟩; replace hd := bl_trans hd hy; clear hy; obtain ⟨L3, L1, _⟩ := hL.out _ hd)
    | (go_at_call 11; first
      | ((with_reducible refine (hq2.out _ hd).mono ?_); rintro e Y2 ⟨ga, gc, rfl, hf3, hy⟩; replace hd := bl_trans hd hy; clear hy; replace hf3 := Lib.hid hf3; have hT3 := Lib.hid (hT.out _ _ _ gc fc hf3.out (hL.out _ hd).2.2))
      | ((with_reducible refine (hqz.out _ hd).mono ?_); rintro e Y2 ⟨za, zc, rfl, _, hy⟩; replace hd := bl_trans hd hy; clear hy; obtain ⟨L3, L1, _⟩ := hL.out _ hd))
    | (go_at_call 17; (with_reducible refine hT3.out.mono ?_); rintro e Y3 ⟨rfl, hy⟩; replace hd := bl_trans hd hy; clear hy)
    | (go_at_call 15; (with_reducible refine (haw.out _).mono ?_); rintro e Y4 ⟨rfl, hy⟩; replace hd := bl_trans hd hy; clear hy))
  all_goals go_ret
  all_goals exact ⟨rfl, bl_trans hbW.out (bl_trans hb hd)⟩
set_option maxHeartbeats 4000000 in
set_option maxRecDepth 100000 in
theorem stateFields_great (w : World) (s : StC) (V : StV) {lo hi_ : Nat} (h : SIn lo hi_ s V w) (hk : ScOk V.sc) (hfn : ∀ x ∈ V.files, x.1.length ≤ 140737488351232) (hg : greatV V = true) :
    Calls Tryz.prog 5 #[.agg s.cells.toArray] w fun e w' => e = .returned (.bool true) ∧ Below w.heap.size w w' := by
  have g1 := fun X (hX : Below w.heap.size w X) => great_sin (h.below hX) hk hfn
  rw [hg] at g1
  have haw := fun X => awake20 X
  obtain ⟨W1, hW1⟩ : ∃ W1, w.alloc (.cells s.cells.toArray 34) = W1 := ⟨_, rfl⟩
  have bA : Blk W1 w.heap.size 34 s.cells := by rw [← hW1]; exact Blk.new w _ _
  have hbW : Below w.heap.size w W1 := by rw [← hW1]; exact bl_alloc (Below.refl _ _) _
  have L1 := stLoad_is s bA
  obtain ⟨C, hC⟩ : ∃ C, s.cells = C := ⟨_, rfl⟩
  rw [hC] at g1 L1 hW1 ⊢
  clear h hk hfn hC bA
  replace g1 := Lib.hid (g1 _ hbW)
  replace haw := Lib.hid haw
  replace hW1 := Lib.hid hW1
  go_enter Tryz.func5, Tryz.ntmps5
  go_upto_region 1 with fail
  rw [hW1.out]
  clear hW1
  go_wp2_with (first
    | (go_at_call 7; (with_reducible refine g1.out.mono ?_); rintro e X1 ⟨rfl, hy⟩; replace hbW := bl_trans hbW hy; clear hy)
    | (go_at_call 15; (with_reducible refine (haw.out _).mono ?_); rintro e Y4 ⟨rfl, hy⟩; replace hbW := bl_trans hbW hy; clear hy))
  all_goals go_ret
  all_goals exact ⟨rfl, hbW⟩
theorem stateFields_walk (W : World) (hpE : Pow W ∧ ErrAt W) (cs0 : Array Value) (x0 : _) (rd0 : rState.ok (Sub.all W) cs0.toList x0) :
    Calls Tryz.prog 5 #[.agg cs0] W fun e w' => e = .returned (.bool true) ∧ Below W.heap.size W w' := by
  obtain ⟨s, V, e1, h, hk, hfn, hw⟩ := sin_of64 rd0
  obtain ⟨c1⟩ := cs0
  simp only at e1
  subst e1
  by_cases hg : greatV V = true
  · exact stateFields_great W s V h hk hfn hg
  · exact stateFields_main W s V h hpE.1 hpE.2 hk hfn ⟨sc_I hk, hw, by simpa using hg⟩
end Go.Proofs.YtepdfkgadigafaaGreatDoor
