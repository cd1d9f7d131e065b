/-
  The command p, alone in its script; of chapter 16.
  Conditions: as each theorem states them.
-/
import Derived.Test.YtepdfkgadigafaaGreatDoorCmL
import Derived.LoopN
import Derived.Test.YtepdfkgadigafaaGreatDoorCpB
namespace Go.Proofs.YtepdfkgadigafaaGreatDoor
open Go.RowKit
set_option linter.unusedVariables false
set_option linter.unusedSimpArgs false
attribute [local go_sem ↓] load_cm store_cm
/-- the script p -/
abbrev pS : List UInt8 := [112]
/-- a parser's other cells at first -/
abbrev pR (m : Nat) (v : Value) : List Value := [v, .slice none 0 0, .slice none 0 0, .slice none 0 0, .bool false, .int .i64 1, .bool false, .slice none 0 0, .map (some m)]
/-- the command, with its letter or without -/
abbrev pC (x : Int) : List Value := [.int .i64 0, .int .i64 0, .int .i64 0, .int .i64 0, .int .i64 0, .int .i64 0, .bool false, .int .u8 x, .int .i64 0, .int .i64 0, .slice none 0 0, .string ⟨#[]⟩, .int .i64 0, .slice none 0 0, .bool false, .bool false, .int .i64 0, .int .i64 (-1), .int .i64 0, .slice none 0 0, .slice none 0 0]
theorem pC_one (x : Int) : ∀ u ∈ pC x, u.oneCell' = true := by
  intro u hu
  simp only [pC, List.mem_cons, List.not_mem_nil, or_false] at hu
  rcases hu with rfl | rfl | rfl | rfl | rfl | rfl | rfl | rfl | rfl | rfl | rfl | rfl | rfl | rfl | rfl | rfl | rfl | rfl | rfl | rfl | rfl <;> rfl
theorem pk0 : pkB pS 0 = 112 := rfl
theorem info_cmd : (Tryz.prog.info? 168).map (fun i => (i.zero, i.size, i.bytes)) = some (some (.agg cmZ.toArray), 21, 224) := by kernel_rfl
set_option maxHeartbeats 4000000 in
set_option maxRecDepth 100000 in
theorem command_p {w : World} {p g : Nat} {ba : Option Addr} {c m : Nat} (h : PaAt w p g ba c pS 0 (pR m (.slice none 0 0))) (hne : ∀ b o, ba = some ⟨b, o, none⟩ → b < w.heap.size ∧ b ≠ p) :
    Calls Tryz.prog 92 #[.pointer (some ⟨p, 0, none⟩)] w fun e w' => e = .returned (.tuple #[]) ∧ ∃ v, PaAt w' p g ba c pS 1 (pR m v) ∧ w'.ownsRow w.heap.size 168 21 v 1 (pC 112) ∧ Only (fun j => j = g ∨ j = p) w w' := by
  obtain ⟨W1, hs1, hB1, hb1⟩ := cm_new w (pC 0) rfl (pC_one 0)
  have hC1 : CmAt w p g ba c pS (pR m (.slice none 0 0)) 0 (pC 0) W1 := ⟨h.below hb1, hB1, Only.of_below hb1, h.pa.lt, h.cu.cu.lt⟩
  have c0 : w.cell? ⟨p, 0, none⟩ = some (.pointer (some ⟨g, 0, none⟩)) := h.pa.cell 0
  have ha0 := Lib.hid (at_any h.cu)
  have hat := Lib.hid (fun X (hX : CmAt w p g ba c pS (pR m (.slice none 0 0)) 0 (pC 0) X) => at_any hX.pa.cu)
  have hno := Lib.hid (fun X (hX : CmAt w p g ba c pS (pR m (.slice none 0 0)) 0 (pC 0) X) => paddr_no hX.pa (by rw [pk0]; decide +kernel) (by decide +kernel) (by decide +kernel) (by decide +kernel))
  have h35 := Lib.hid (fun X (hX : CmAt w p g ba c pS (pR m (.slice none 0 0)) 0 (pC 0) X) => pis_lit hX.pa 35 35 rfl false (by decide +kernel))
  have h33 := Lib.hid (fun X (hX : CmAt w p g ba c pS (pR m (.slice none 0 0)) 0 (pC 0) X) => pis_lit hX.pa 33 33 rfl false (by decide +kernel))
  have hbl := Lib.hid (fun X (hX : CmAt w p g ba c pS (pR m (.slice none 0 0)) 0 (pC 0) X) => pblanks_any hX.pa)
  have hr0 := Lib.hid (show runTo (oneOf blk2) pS 0 = 0 by decide +kernel)
  have hnx := Lib.hid (fun X (hX : CmAt w p g ba c pS (pR m (.slice none 0 0)) 0 (pC 0) X) => show Calls Tryz.prog 121 #[.pointer (some ⟨g, 0, none⟩)] X fun e w' => e = .returned (.tuple #[.int .u8 112, .bool true]) ∧ CuAt w' g ba c pS 1 ∧ Only (fun j => j = g) X w' from nextc_any hX.pa.cu)
  have hne' : ∀ b o, ba = some ⟨b, o, none⟩ → b < w.heap.size := fun b o e => (hne b o e).1
  have hib1 := Lib.hid (fun W => show Calls Tryz.prog 112 #[.string ⟨#[123, 125, 61, 100, 68, 103, 71, 104, 72, 110, 78, 112, 80, 120, 58, 98, 116, 97, 99, 105, 113, 108, 114, 119, 115, 121, 35]⟩, .int .u8 112] W fun e w' => e = .returned (.int .i64 11) ∧ w' = W from Tryz.strings_IndexByte ⟨#[123, 125, 61, 100, 68, 103, 71, 104, 72, 110, 78, 112, 80, 120, 58, 98, 116, 97, 99, 105, 113, 108, 114, 119, 115, 121, 35]⟩ 112 W)
  have hib2 := Lib.hid (fun W => show Calls Tryz.prog 112 #[.string ⟨#[58, 125, 35]⟩, .int .u8 112] W fun e w' => e = .returned (.int .i64 (-1)) ∧ w' = W from Tryz.strings_IndexByte ⟨#[58, 125, 35]⟩ 112 W)
  have hib3 := Lib.hid (fun W => show Calls Tryz.prog 112 #[.string ⟨#[97, 105, 113, 114, 61]⟩, .int .u8 112] W fun e w' => e = .returned (.int .i64 (-1)) ∧ w' = W from Tryz.strings_IndexByte ⟨#[97, 105, 113, 114, 61]⟩ 112 W)
  have pl : p < w.heap.size := h.pa.lt
  have harg := Lib.hid (fun X (hX : CmAt w p g ba c pS (pR m (.slice none 0 0)) 1 (pC 112) X) => parg_none (q := .pointer (some ⟨p, 0, none⟩)) (x := 112) (hX.cm.cell 7) (by decide))
  have hend := Lib.hid (fun X (hX : CmAt w p g ba c pS (pR m (.slice none 0 0)) 1 (pC 112) X) => pend_ok hX.pa (show runTo (oneOf blk2) pS 1 = 1 by decide +kernel) (by decide +kernel))
  clear h hb1 hB1
  replace hC1 := Lib.hid hC1
  go_enter Tryz.func92, Tryz.ntmps92
  go_wp2_with (first
    | (go_at_call 91; (with_reducible refine ha0.out.mono ?_); rintro e w2 ⟨rfl, hw2⟩; subst w2)
    | (go_at_call 117; (with_reducible refine (h35.out _ hC1.out).mono ?_); rintro e w2 ⟨rfl, hb⟩; replace hC1 := Lib.hid (hC1.out.below hb); clear hb)
    | (go_at_call 119; (with_reducible refine (hno.out _ hC1.out).mono ?_); rintro e w3 ⟨rfl, hb⟩; replace hC1 := Lib.hid ((hC1.out.below hb).below (bl_alloc (Below.refl _ _) (.cells #[.int .i64 0, .int .i64 0, .int .i64 0] 165))); clear hb)
    | (go_at_call 120; (with_reducible refine (hbl.out _ hC1.out).mono ?_); rintro e w4 ⟨rfl, hp4, ho4⟩; rw [hr0.out] at hp4; replace hC1 := Lib.hid (hC1.out.move hp4 ho4); clear hp4 ho4))
  refine wp_loop_rounds 1 ?_
  rw [rounds_succ]
  go_wp2_with (first
    | (go_at_call 117; (with_reducible refine (h33.out _ hC1.out).mono ?_); rintro e w5 ⟨rfl, hb⟩; replace hC1 := Lib.hid (hC1.out.below hb); clear hb; have d5 := hC1.out.cur)
    | (go_at_call 91; (with_reducible refine (hat.out _ hC1.out).mono ?_); rintro e w2 ⟨rfl, hw2⟩; subst w2)
    | (go_at_call 121; (with_reducible refine (hnx.out _ hC1.out).mono ?_); rintro e w6 ⟨rfl, hc6, ho6⟩; have hC6 := hC1.out.step hc6 ho6; clear hc6 ho6; have d6 := hC6.cm.cell 7; have f6 := hC6.cm.free 7; have l6 := hC6.cm.lt; have dc6 := hC6.pa.pa.cell 1; have do6 := hC6.pa.pa.cell 8; have hC6 := Lib.hid (show CmAt w p g ba c pS (pR m (.slice none 0 0)) 1 (pC 112) _ from hC6.set hne' 7 (.int .u8 112)); simp only [List.getElem?_cons_succ, List.getElem?_cons_zero] at d6 dc6 do6)
    | (go_at_call 112; first
      | ((with_reducible refine (hib1.out _).mono ?_); rintro e w2 ⟨rfl, hw2⟩; subst hw2)
      | ((with_reducible refine (hib2.out _).mono ?_); rintro e w2 ⟨rfl, hw2⟩; subst hw2)
      | ((with_reducible refine (hib3.out _).mono ?_); rintro e w2 ⟨rfl, hw2⟩; subst hw2))
    | (go_at_call 122; (with_reducible refine (harg.out _ hC6.out).mono ?_); rintro e w2 ⟨rfl, hw2⟩; subst hw2)
    | (go_at_call 123; (with_reducible refine (hend.out _ hC6.out).mono ?_); rintro e w8 ⟨rfl, hp8, ho8⟩; replace hC6 := Lib.hid (hC6.out.move hp8 ho8); clear hp8 ho8))
  have e0 := hC6.out.cur
  have e1 := hC6.out.pa.pa.cell 1
  simp only [List.getElem?_cons_succ, List.getElem?_cons_zero] at e1
  have e2 := cmLoad_is _ rfl hC6.out.cm
  have hone := Lib.hid (pC_one 112)
  have hlen := Lib.hid (show (pC 112).length = 21 from rfl)
  obtain ⟨CC, hCC⟩ : ∃ CC, pC 112 = CC := ⟨_, rfl⟩
  rw [hCC] at e2 hone hlen
  replace hCC := Lib.hid hCC
  have hC0 : w8.drew.cell? ⟨p, 1, none⟩ = some (.slice none 0 0) ∧ (cmLoad ⟨w.heap.size, 0, none⟩).run Tryz.prog w8.drew = .ok (.agg CC.toArray) w8.drew := ⟨e1, by rw [← hCC.out]; exact cmLoad_is _ rfl hC6.out.cm.drew⟩
  have hC9 := hC6.out.below (bl_drew (Below.refl _ _))
  clear e0 e1 e2
  obtain ⟨i0, hi, hz0, hz1, hz2⟩ := info_parts info_cmd
  refine region_till (fun X => X.cell? ⟨p, 1, none⟩ = some (.slice none 0 0) ∧ (cmLoad ⟨w.heap.size, 0, none⟩).run Tryz.prog X = .ok (.agg CC.toArray) X) 12 (by kernel_rfl) ?_
  obtain ⟨w9, hw9⟩ : ∃ x, w8.drew = x := ⟨_, rfl⟩
  rw [hw9] at hC0 hC9 ⊢
  clear hw9
  refine wpAnyT_take (i := 0) (v := (.pointer (some ⟨p, 0, none⟩))) (some 161) rfl (by kernel_rfl) (by kernel_rfl) (by kernel_rfl) (by kernel_rfl) (fun _ _ _ h => absurd h np_panic) [12] (by kernel_rfl) (by kernel_rfl) (by kernel_rfl) (Or.inl ⟨by rfl, ?_⟩) hC0 ?_
  · intro X hX
    (obtain ⟨x0, x1⟩ := hX; go_simp)
  simp only [Act.put, List.setIfInBounds_toArray, List.set_cons_zero, List.set_cons_succ]
  refine wpAnyT_take (i := 1) (v := (.pointer (some ⟨p, 0, none⟩))) (some 162) rfl (by kernel_rfl) (by kernel_rfl) (by kernel_rfl) (by kernel_rfl) (fun _ _ _ h => absurd h np_panic) [12] (by kernel_rfl) (by kernel_rfl) (by kernel_rfl) (Or.inl ⟨by rfl, ?_⟩) hC0 ?_
  · intro X hX
    (obtain ⟨x0, x1⟩ := hX; go_simp)
  simp only [Act.put, List.setIfInBounds_toArray, List.set_cons_zero, List.set_cons_succ]
  refine wpAnyT_take (i := 2) (v := (.pointer (some ⟨p, 0, none⟩))) (some 163) rfl (by kernel_rfl) (by kernel_rfl) (by kernel_rfl) (by kernel_rfl) (fun _ _ _ h => absurd h np_panic) [12] (by kernel_rfl) (by kernel_rfl) (by kernel_rfl) (Or.inl ⟨by rfl, ?_⟩) hC0 ?_
  · intro X hX
    (obtain ⟨x0, x1⟩ := hX; go_simp)
  simp only [Act.put, List.setIfInBounds_toArray, List.set_cons_zero, List.set_cons_succ]
  refine wpAnyT_take (i := 3) (v := (.pointer (some ⟨p, 1, none⟩))) (some 164) rfl (by kernel_rfl) (by kernel_rfl) (by kernel_rfl) (by kernel_rfl) (fun _ _ _ h => absurd h np_panic) [12] (by kernel_rfl) (by kernel_rfl) (by kernel_rfl) (Or.inl ⟨by rfl, ?_⟩) hC0 ?_
  · intro X hX
    (obtain ⟨x0, x1⟩ := hX; go_simp)
  simp only [Act.put, List.setIfInBounds_toArray, List.set_cons_zero, List.set_cons_succ]
  refine wpAnyT_take (i := 4) (v := (.pointer (some ⟨p, 1, none⟩))) (some 165) rfl (by kernel_rfl) (by kernel_rfl) (by kernel_rfl) (by kernel_rfl) (fun _ _ _ h => absurd h np_panic) [12] (by kernel_rfl) (by kernel_rfl) (by kernel_rfl) (Or.inl ⟨by rfl, ?_⟩) hC0 ?_
  · intro X hX
    (obtain ⟨x0, x1⟩ := hX; go_simp)
  simp only [Act.put, List.setIfInBounds_toArray, List.set_cons_zero, List.set_cons_succ]
  refine wpAnyT_take (i := 5) (v := (.slice none 0 0)) (some 166) rfl (by kernel_rfl) (by kernel_rfl) (by kernel_rfl) (by kernel_rfl) (fun _ _ _ h => absurd h np_panic) [12] (by kernel_rfl) (by kernel_rfl) (by kernel_rfl) (Or.inl ⟨by rfl, ?_⟩) hC0 ?_
  · intro X hX
    (obtain ⟨x0, x1⟩ := hX; go_simp)
  simp only [Act.put, List.setIfInBounds_toArray, List.set_cons_zero, List.set_cons_succ]
  refine wpAnyT_take (i := 6) (v := (.agg CC.toArray)) (some 167) rfl (by kernel_rfl) (by kernel_rfl) (by kernel_rfl) (by kernel_rfl) (fun _ _ _ h => absurd h np_panic) [12] (by kernel_rfl) (by kernel_rfl) (by kernel_rfl) (Or.inl ⟨by rfl, ?_⟩) hC0 ?_
  · intro X hX
    (obtain ⟨x0, x1⟩ := hX; go_simp)
  simp only [Act.put, List.setIfInBounds_toArray, List.set_cons_zero, List.set_cons_succ]
  have hsrc : ∀ j u, CC[j]? = some u → (w9.alloc (.cells CC.toArray 168)).cell? ((⟨w9.heap.size, 0, none⟩ : Addr).add j) = some u := fun j u hu => by
    rw [Addr.add_mid, Nat.zero_add, (Blk.new w9 168 CC).cell]; exact hu
  have hbA : Below w9.heap.size w9 (w9.alloc (.cells CC.toArray 168)) := bl_alloc (Below.refl _ _) _
  have hCA := hC9.below hbA
  have h9 := hC0
  replace hsrc := Lib.hid hsrc
  replace hC9 := Lib.hid hC9
  replace hC0 := Lib.hid hC0
  have hl21 := hlen.out
  refine wpAnyT_ready (rs := [7]) (by kernel_rfl) (by simp) ?_
  refine AllT.cons rfl (fun K hK => ?_) AllT.nil
  go_simp
  clear hl21
  rw [build_cm CC hlen.out]
  obtain ⟨wA, hwA⟩ : ∃ x, w9.alloc (.cells CC.toArray 168) = x := ⟨_, rfl⟩
  rw [hwA] at hsrc hbA hCA ⊢
  have e1 := hCA.pa.pa.cell 1
  simp only [List.getElem?_cons_succ, List.getElem?_cons_zero] at e1
  have hC1' : wA.cell? ⟨p, 1, none⟩ = some (.slice none 0 0) ∧ (cmLoad ⟨w.heap.size, 0, none⟩).run Tryz.prog wA = .ok (.agg CC.toArray) wA := ⟨e1, by rw [← hCC.out]; exact cmLoad_is _ rfl hCA.cm⟩
  have hsz : wA.heap.size = w9.heap.size + 1 := by rw [← hwA]; simp
  clear e1 hwA
  refine hK.out _ _ (fun _ => hC1') ?_
  clear hK K hC1'
  replace hCA := Lib.hid hCA
  replace hbA := Lib.hid hbA
  refine wpAnyT_ready (rs := [8]) (by kernel_rfl) (by simp) ?_
  refine AllT.cons rfl (fun K hK => ?_) AllT.nil
  rw [if_pos (by rfl)]
  refine wp_append_own wA (.tmp 166) (.tmp 168) 119 rfl wA.heap.size 168 i0 (.agg cmZ.toArray) 21 224 Tryz.underlying119 hi hz0 hz1 hz2 rfl (by decide) (.slice none 0 0) 0 [] rfl (World.ownsRow_nil _ _ _ _) ⟨w9.heap.size, 0, none⟩ 1 1 CC rfl (by rw [hlen.out]) hsrc.out hone.out (by decide) (by decide) (Nat.le_refl _) ?_
  intro v wB hown hgrow _
  obtain ⟨va, vc, rfl⟩ := own_slice hown
  simp only [Nat.zero_add, List.nil_append] at hown hgrow ⊢
  have hbB : Below wA.heap.size wA wB := (Below.refl _ _).grown hgrow (Nat.le_refl _) (fun j hj => by cases hj)
  have hCB := hCA.out.below hbB
  have e1 := hCB.pa.pa.cell 1
  have fB := hCB.pa.pa.free 1
  have lB := hCB.pa.pa.lt
  simp only [List.getElem?_cons_succ, List.getElem?_cons_zero] at e1
  have hC2' : wB.cell? ⟨p, 1, none⟩ = some (.slice none 0 0) ∧ (cmLoad ⟨w.heap.size, 0, none⟩).run Tryz.prog wB = .ok (.agg CC.toArray) wB := ⟨e1, by rw [← hCC.out]; exact cmLoad_is _ rfl hCB.cm⟩
  refine hK.out _ _ (fun _ => hC2') ?_
  clear hK K hsrc
  replace hCB := Lib.hid hCB
  replace hown := Lib.hid hown
  refine wpAnyT_ready (rs := [9]) (by kernel_rfl) (by simp) ?_
  refine AllT.cons rfl (fun K hK => ?_) AllT.nil
  go_simp
  refine hK.out _ _ (fun _ => hC2') ?_
  clear hK K
  refine wpAnyT_ready (rs := [10]) (by kernel_rfl) (by simp) ?_
  refine AllT.cons rfl (fun K hK => ?_) AllT.nil
  go_simp
  refine hK.out _ _ (fun _ => hC2') ?_
  clear hK K
  refine wpAnyT_ready (rs := [11]) (by kernel_rfl) (by simp) ?_
  refine AllT.cons rfl (fun K hK => ?_) AllT.nil
  go_simp
  refine hK.out _ _ (fun _ => hC2') ?_
  clear hK K
  refine wpAnyT_ready (rs := [12]) (by kernel_rfl) (by simp) ?_
  refine AllT.cons rfl (fun K hK => ?_) AllT.nil
  go_simp
  refine hK.out _ _ (fun h => nomatch (Eq.trans (by kernel_rfl : true = _) h : true = false)) ?_
  clear hK K
  refine wpAnyT_done (by kernel_rfl) ⟨rfl, ?_⟩ _
  go_wp2_with fail
  have hpA : p < wA.heap.size := hCA.out.pa.pa.lt
  have hwA : w.heap.size ≤ wA.heap.size := hCA.out.only.size
  all_goals (first | go_end0 | refine bodyPost_ret (results_none rfl _ _ _) rfl ?_)
  refine ⟨rfl, .slice va 1 vc, hCB.out.pa.put (fun b o e => (hne b o e).2) 0 _, ?_, (hCB.out.only.mono (fun k hk => .inl hk)).setCell (p := ⟨p, 1, none⟩) (.inr rfl) _⟩
  rw [hCC.out]
  exact own_base8 (own_set9 hown.out (q := ⟨p, 1, none⟩) hpA _) hwA
end Go.Proofs.YtepdfkgadigafaaGreatDoor
