/-
  parse.Parse at the script p; of chapter 16.
  Conditions: as each theorem states them.
-/
import Derived.Test.YtepdfkgadigafaaGreatDoorPrs1
namespace Go.Proofs.YtepdfkgadigafaaGreatDoor
open Go.RowKit
set_option linter.unusedVariables false
set_option linter.unusedSimpArgs false
/-- what stands between commands -/
abbrev blk4 : List UInt8 := [32, 9, 10, 59]
theorem pskip4 {w : World} {p g : Nat} {ba : Option Addr} {c : Nat} {s : List UInt8} {k : Nat} {rest : List Value} (h : PaAt w p g ba c s k rest) :
    Calls Tryz.prog 90 #[.pointer (some ⟨g, 0, none⟩), .slice (some ⟨w.heap.size, 0, none⟩) 4 4] (w.alloc (.cells #[.int .u8 32, .int .u8 9, .int .u8 10, .int .u8 59] 5)) fun e w' => e = .returned (.int .i64 ((runTo (oneOf blk4) s k - k : Nat) : Int)) ∧ PaAt w' p g ba c s (runTo (oneOf blk4) s k) rest ∧ Only (fun j => j = g) w w' := by
  have hgl := h.cu.cu.lt
  obtain ⟨W1, hW1⟩ : ∃ X, w.alloc (.cells #[.int .u8 32, .int .u8 9, .int .u8 10, .int .u8 59] 5) = X := ⟨_, rfl⟩
  have hb1 : Below w.heap.size w W1 := by rw [← hW1]; exact bl_alloc (Below.refl _ _) _
  have hr : RowNe W1 g (some ⟨w.heap.size, 0, none⟩) blk4 := by
    refine ⟨_, _, rfl, by omega, by rw [← hW1]; simp, fun i hi => ?_⟩
    have hB : Blk W1 w.heap.size 5 [.int .u8 32, .int .u8 9, .int .u8 10, .int .u8 59] := by rw [← hW1]; exact Blk.new w _ _
    have := hB.cell (0 + i)
    rw [this]
    have hi : i < 4 := hi
    rcases (by omega : i = 0 ∨ i = 1 ∨ i = 2 ∨ i = 3) with rfl | rfl | rfl | rfl <;> rfl
  rw [hW1]
  refine (skip_lit (h.cu.below hb1) blk4 4 rfl _ 4 hr).mono ?_
  rintro e w' ⟨rfl, hC, hO⟩
  exact ⟨rfl, h.go hC ((Only.of_below hb1).trans hO), (Only.of_below hb1).trans hO⟩
theorem own_only9 {X X' : World} {S : Nat → Prop} {N e k n : Nat} {v : Value} {xs : List Value} (h : X.ownsRow N e k v n xs) (ho : Only S X X') (hS : ∀ j, S j → j < N) : X'.ownsRow N e k v n xs := by
  obtain ⟨hl, h⟩ := h
  rcases h with ⟨rfl, rfl⟩ | ⟨g, cap, cur, rfl, hg, hb', hk, hc, hs, rfl⟩
  · exact ⟨hl, .inl ⟨rfl, rfl⟩⟩
  · exact ⟨hl, .inr ⟨g, cap, cur, rfl, hg, (ho.block g (Array.getElem?_eq_some_iff.1 hb').1 (fun hs => by have := hS g hs; omega)).trans hb', hk, hc, hs, rfl⟩⟩
/-- what is returned, behind the deferred call -/
theorem pleft {R : Ending → World → Prop} {b2 b3 b4 : Nat} {tmps : Array Value} {W : World} {vp vq vr : Value} (t2 : tmps[4]? = some (.pointer (some ⟨b2, 0, none⟩))) (t3 : tmps[5]? = some (.pointer (some ⟨b3, 0, none⟩))) (t4 : tmps[6]? = some (.pointer (some ⟨b4, 0, none⟩)))
    (h1 : W.cell? ⟨b2, 0, none⟩ = some vp) (h2 : W.cell? ⟨b3, 0, none⟩ = some vq) (h3 : W.cell? ⟨b4, 0, none⟩ = some vr) (hR : R (.returned (.tuple #[vp, vq, vr])) W) :
    Leaves Tryz.prog Tryz.f63 tmps R [{ target := .fn (.func 88) #[.pointer (some ⟨b2, 0, none⟩), .pointer (some ⟨b3, 0, none⟩), .pointer (some ⟨b4, 0, none⟩)], args := #[] }] .returning W := by
  refine leaves_cons (f := 88) (args := #[.pointer (some ⟨b2, 0, none⟩), .pointer (some ⟨b3, 0, none⟩), .pointer (some ⟨b4, 0, none⟩)]) (by simp) (by simp [go_sem]) ?_
  refine (pcatch_idle ⟨b2, 0, none⟩ ⟨b3, 0, none⟩ ⟨b4, 0, none⟩ W).mono ?_
  rintro e u' w' ⟨rfl, rfl, rfl⟩
  refine ⟨.tuple #[vp, vq, vr], ?_, hR⟩
  simp [results, Tryz.results63, go_sem, t2, t3, t4, h1, h2, h3]
/-- the results' variables of Parse, as they were made -/
structure Fin3 (w X : World) : Prop where
  c4 : X.cell? ⟨w.heap.size, 0, none⟩ = some (.pointer none)
  c5 : X.cell? ⟨w.heap.size + 1, 0, none⟩ = some (.int .i64 0)
  c6 : X.cell? ⟨w.heap.size + 1 + 1, 0, none⟩ = some (.int .i64 0)
  z4 : X.frozen? ⟨w.heap.size, 0, none⟩ = false
  z5 : X.frozen? ⟨w.heap.size + 1, 0, none⟩ = false
  z6 : X.frozen? ⟨w.heap.size + 1 + 1, 0, none⟩ = false
  sz : w.heap.size + 3 ≤ X.heap.size
  below : Below w.heap.size w X
theorem Fin3.later {w X X' : World} (h : Fin3 w X) (ho : Only (fun k => w.heap.size + 3 ≤ k) X X') : Fin3 w X' := by
  have hs := h.sz
  have e : ∀ b, b < w.heap.size + 3 → X'.heap[b]? = X.heap[b]? := fun b hb => ho.block b (by omega) (by omega)
  exact ⟨(World.cell?_of_block (e _ (by simp only; omega))).trans h.c4, (World.cell?_of_block (e _ (by simp only; omega))).trans h.c5, (World.cell?_of_block (e _ (by simp only; omega))).trans h.c6, (World.frozen?_of_block (e _ (by simp only; omega))).trans h.z4, (World.frozen?_of_block (e _ (by simp only; omega))).trans h.z5, (World.frozen?_of_block (e _ (by simp only; omega))).trans h.z6,
    Nat.le_trans hs ho.size, h.below.trans ⟨ho.os, ho.tape, ho.output, ho.size, fun k hk => e k (by omega)⟩⟩
theorem Fin3.new (w : World) : Fin3 w (((w.alloc (.cells #[.pointer none] 112)).alloc (.cells #[.int .i64 0] 3)).alloc (.cells #[.int .i64 0] 29)) := by
  have b1 := ((Blk.new w 112 [.pointer none]).alloc (.cells #[.int .i64 0] 3)).alloc (.cells #[.int .i64 0] 29)
  have b2 := (Blk.new (w.alloc (.cells #[.pointer none] 112)) 3 [.int .i64 0]).alloc (.cells #[.int .i64 0] 29)
  have b3 := Blk.new ((w.alloc (.cells #[.pointer none] 112)).alloc (.cells #[.int .i64 0] 3)) 29 [.int .i64 0]
  simp only [World.size_alloc] at b2 b3
  exact ⟨b1.cell 0, b2.cell 0, b3.cell 0, b1.free 0, b2.free 0, b3.free 0, by simp, bl_alloc (bl_alloc (bl_alloc (Below.refl _ _) _) _) _⟩
set_option maxHeartbeats 4000000 in
set_option maxRecDepth 100000 in
theorem parse_p (w : World) (a : Option Addr) (c : Nat) (hs : ByAt (fun _ => True) false w a pS) :
    Calls Tryz.prog 63 #[.slice a 1 c, .bool false] w fun e w' => ∃ sb v, e = .returned (.tuple #[.pointer (some ⟨sb, 0, none⟩), .int .i64 0, .int .i64 0]) ∧ Blk w' sb 161 [v, .slice none 0 0, .slice none 0 0, .slice none 0 0, .bool false, .bool false] ∧ w'.ownsRow w.heap.size 168 21 v 1 (pC 112) ∧ w.heap.size ≤ sb ∧ Below w.heap.size w w' := by
  have hmf : ∀ (fn : Fn) (first cap : Array Value) (w : World), (Instr.makeFunc fn first cap).run Tryz.prog w = .ok (.func fn first cap) w := fun _ _ _ _ => rfl
  have hmm : ∀ (W : World), (Instr.makeMap 151 none).run Tryz.prog W = .ok (.map (some W.heap.size)) (W.alloc (.map #[] 0)) := fun _ => rfl
  obtain ⟨W3, hW3⟩ : ∃ W3, ((w.alloc (.cells #[.pointer none] 112)).alloc (.cells #[.int .i64 0] 3)).alloc (.cells #[.int .i64 0] 29) = W3 := ⟨_, rfl⟩
  have hb3 : Below w.heap.size w W3 := by rw [← hW3]; exact bl_alloc (bl_alloc (bl_alloc (Below.refl _ _) _) _) _
  have hop := Lib.hid (sopen_any a 1 c pS W3 rfl (by decide) (hs.below hb3))
  have hF3 := Lib.hid (show Fin3 w W3 by rw [← hW3]; exact Fin3.new w)
  replace hW3 := Lib.hid hW3
  replace hs := Lib.hid hs
  go_enter_defers Tryz.func63, Tryz.ntmps63
  go_upto_region 3 with fail
  rw [hW3.out]
  go_upto_region 5 with (go_at_call 87; (with_reducible refine hop.out.mono ?_); rintro e w3 ⟨g, b', c', rfl, hcu, hgw, hbr, hbo⟩; replace hcu := Lib.hid hcu; replace hbr := Lib.hid hbr; replace hbo := Lib.hid hbo)
  have hw3 : w.heap.size + 3 ≤ W3.heap.size := hF3.out.sz
  have hww : W3.heap.size ≤ w3.heap.size := hbo.out.size
  have hgl : g < w3.heap.size := hcu.out.cu.lt
  obtain ⟨w4, hw4⟩ : ∃ x, (w3.alloc (.map #[] 0)).alloc (.cells #[.pointer (some ⟨g, 0, none⟩), .slice none 0 0, .slice none 0 0, .slice none 0 0, .slice none 0 0, .bool false, .int .i64 1, .bool false, .slice none 0 0, .map (some w3.heap.size)] 153) = x := ⟨_, rfl⟩
  obtain ⟨m, hm⟩ : ∃ m, w3.heap.size = m := ⟨_, rfl⟩
  have hb4 : Below w3.heap.size w3 w4 := by rw [← hw4]; exact bl_alloc (bl_alloc (Below.refl _ _) _) _
  have hP : PaAt w4 (m + 1) g b' c' pS 0 (pR m (.slice none 0 0)) := by
    refine ⟨?_, hcu.out.below hb4, by omega⟩
    have := Blk.new (w3.alloc (.map #[] 0)) 153 (.pointer (some ⟨g, 0, none⟩) :: pR m (.slice none 0 0))
    rw [World.size_alloc, hm] at this
    rw [← hw4, hm]
    exact this
  have hF4 : Fin3 w w4 := hF3.out.later (Only.of_below (hbo.out.trans (hb4.mono hww)))
  have hcv : (convert 22 9 (.slice a 1 c)).run Tryz.prog w4 = .ok (.string ⟨#[112]⟩) w4 := run_conv (hs.out.below hF4.below) _ _ _ Tryz.underlying22 Tryz.underlying5 Tryz.underlying9 c
  have hne : ∀ b o, b' = some ⟨b, o, none⟩ → b < w4.heap.size ∧ b ≠ m + 1 := fun b o e => by
    have := hbr.out b o e
    have := hb4.size
    omega
  have hpm : m + 1 < w4.heap.size := hP.pa.lt
  rw [hw4]
  rw [hm] at hgl hww ⊢
  clear hw4 hb4
  replace hP := Lib.hid hP
  replace hF4 := Lib.hid hF4
  replace hm := Lib.hid hm
  replace hne := Lib.hid hne
  have c0 := hP.out.pa.cell 0
  simp only [List.getElem?_cons_zero] at c0
  have hsk := Lib.hid (pskip4 hP.out)
  have hpre := Lib.hid (fun W => hpre_p W)
  have hr0 : runTo (oneOf blk4) pS 0 = 0 := by decide +kernel
  rw [hr0] at hsk
  clear hr0
  go_wp2_with (first
    | (go_at_call 89; (with_reducible refine (hpre.out _).mono ?_); rintro e w5 ⟨rfl, rfl⟩)
    | (go_at_call 90; (with_reducible refine hsk.out.mono ?_); rintro e w5 ⟨rfl, hP5, hO5⟩; have d0 := hP5.pa.cell 0; have d6 := hP5.pa.cell 6; simp only [List.getElem?_cons_zero, List.getElem?_cons_succ] at d0 d6; replace hP5 := Lib.hid hP5; replace hO5 := Lib.hid hO5))
  refine wp_loop_rounds 2 ?_
  rw [rounds_succ]
  go_upto_region 9 with fail
  have hat1 := at_any (hP5.out.below (bl_drew (Below.refl _ _))).cu
  refine wp_region_still_lit (by kernel_rfl) (by kernel_rfl) ?_
  iterate 4 still_step
  still_call hat1
  iterate 5 still_step
  refine wpStill_nil ?_
  clear hat1
  obtain ⟨w6, hw6⟩ : ∃ x, w5.drew = x := ⟨_, rfl⟩
  have hb6 : Below w5.heap.size w5 w6 := by rw [← hw6]; exact bl_drew (Below.refl _ _)
  change Exit.then _ _ _ _ w5.drew
  rw [hw6]
  clear hw6 d0 d6
  have hP6 := hP5.out.below hb6
  have hO6 := hO5.out.trans (Only.of_below hb6)
  clear hb6
  have hcm := Lib.hid (command_p hP6 (fun b o e => ⟨Nat.lt_of_lt_of_le (hne.out b o e).1 hO6.size, (hne.out b o e).2⟩))
  replace hP6 := Lib.hid hP6
  replace hO6 := Lib.hid hO6
  go_wp2_with (first
    | (go_at_call 92; (with_reducible refine hcm.out.mono ?_); rintro e w7 ⟨rfl, v, hP7, ho7, hO7⟩; have d7 := hP7.pa.cell 0; simp only [List.getElem?_cons_zero] at d7; have hsk7 := Lib.hid (pskip4 hP7); replace hP7 := Lib.hid hP7; replace hO7 := Lib.hid hO7; replace ho7 := Lib.hid ho7)
    | (go_at_call 90; (with_reducible refine hsk7.out.mono ?_); rintro e w8 ⟨rfl, hP8, hO8⟩))
  have hr1 : runTo (oneOf blk4) pS 1 = 1 := by decide +kernel
  rw [hr1] at hP8
  clear hr1
  have d0 := hP8.pa.cell 0
  have d6 := hP8.pa.cell 6
  simp only [List.getElem?_cons_zero, List.getElem?_cons_succ] at d0 d6
  rw [rounds_succ]
  go_upto_region 9 with fail
  have hat2 := at_any (hP8.below (bl_drew (Below.refl _ _))).cu
  refine wp_region_still_lit (by kernel_rfl) (by kernel_rfl) ?_
  iterate 4 still_step
  still_call hat2
  iterate 5 still_step
  refine wpStill_nil ?_
  clear hat2
  obtain ⟨w9, hw9⟩ : ∃ x, w8.drew = x := ⟨_, rfl⟩
  have hb9 : Below w8.heap.size w8 w9 := by rw [← hw9]; exact bl_drew (Below.refl _ _)
  change Exit.then _ _ _ _ w8.drew
  rw [hw9]
  clear hw9 d0 d6 d7 hsk7
  have hP9 := hP8.below hb9
  have hg6 : g < w6.heap.size := hP6.out.cu.cu.lt
  have hs67 : w6.heap.size ≤ w7.heap.size := hO7.out.size
  have ho9 := own_only9 ho7.out (hO8.trans (Only.of_below hb9)) (fun j hj => by omega)
  have hO9 : Only (fun k => w.heap.size + 3 ≤ k) w4 w9 := by
    refine (hO6.out.mono (fun k hk => by omega)).trans ((hO7.out.mono (fun k hk => by omega)).trans ((hO8.trans (Only.of_below hb9)).mono (fun k hk => by omega)))
  have hF9 := hF4.out.later hO9
  obtain ⟨va, vc, rfl⟩ := own_slice ho9
  have hj := Lib.hid (jumps_p hP9 ho9)
  have d1 := hP9.pa.cell 1
  have d2 := hP9.pa.cell 2
  have d3 := hP9.pa.cell 3
  have d4 := hP9.pa.cell 4
  have d5 := hP9.pa.cell 5
  have d8 := hP9.pa.cell 8
  simp only [List.getElem?_cons_zero, List.getElem?_cons_succ] at d1 d2 d3 d4 d5 d8
  have hl9 := hP9.pa.lt
  replace hP9 := Lib.hid hP9
  replace ho9 := Lib.hid ho9
  replace hO9 := Lib.hid hO9
  replace hP8 := Lib.hid hP8
  replace hO8 := Lib.hid hO8
  replace hb9 := Lib.hid hb9
  obtain ⟨x4, x5, x6, y4, y5, y6, ys, yb⟩ := hF9
  have g2 : w.heap.size < w9.heap.size := by omega
  have g3 : w.heap.size + 1 < w9.heap.size := by omega
  have g4 : w.heap.size + 1 + 1 < w9.heap.size := by omega
  replace yb := Lib.hid yb
  clear c0 hcm hsk hpre hop
  go_wp2_with (go_at_call 94; (with_reducible refine hj.out.mono ?_); rintro e wx ⟨rfl, rfl⟩)
  obtain ⟨t4, t5, t6⟩ := three_cells9 (v1 := .pointer (some ⟨w9.heap.size, 0, none⟩)) (v2 := .int .i64 0) (v3 := .int .i64 0) x4 x5 x6 (by omega) (by omega) (by omega)
  have hY : Only (fun k => k = w.heap.size ∨ k = w.heap.size + 1 ∨ k = w.heap.size + 1 + 1) w9 (((w9.setCell ⟨w.heap.size, 0, none⟩ (.pointer (some ⟨w9.heap.size, 0, none⟩))).setCell ⟨w.heap.size + 1, 0, none⟩ (.int .i64 0)).setCell ⟨w.heap.size + 1 + 1, 0, none⟩ (.int .i64 0)) :=
    (((Only.refl _ w9).setCell (p := ⟨w.heap.size, 0, none⟩) (.inl rfl) _).setCell (p := ⟨w.heap.size + 1, 0, none⟩) (.inr (.inl rfl)) _).setCell (p := ⟨w.heap.size + 1 + 1, 0, none⟩) (.inr (.inr rfl)) _
  have hsY : (((w9.setCell ⟨w.heap.size, 0, none⟩ (.pointer (some ⟨w9.heap.size, 0, none⟩))).setCell ⟨w.heap.size + 1, 0, none⟩ (.int .i64 0)).setCell ⟨w.heap.size + 1 + 1, 0, none⟩ (.int .i64 0)).heap.size = w9.heap.size := by simp [World.setCell]
  generalize (((w9.setCell ⟨w.heap.size, 0, none⟩ (.pointer (some ⟨w9.heap.size, 0, none⟩))).setCell ⟨w.heap.size + 1, 0, none⟩ (.int .i64 0)).setCell ⟨w.heap.size + 1 + 1, 0, none⟩ (.int .i64 0)) = Y at *
  have hYa := bl_alloc (Below.refl Y.heap.size Y) (.cells #[.slice va 1 vc, .slice none 0 0, .slice none 0 0, .slice none 0 0, .bool false, .bool false] 161)
  refine pleft rfl rfl rfl ((hYa.cell (p := ⟨w.heap.size, 0, none⟩) (by simp only; omega)).trans t4) ((hYa.cell (p := ⟨w.heap.size + 1, 0, none⟩) (by simp only; omega)).trans t5) ((hYa.cell (p := ⟨w.heap.size + 1 + 1, 0, none⟩) (by simp only; omega)).trans t6) ?_
  refine ⟨w9.heap.size, .slice va 1 vc, rfl, ?_, ?_, by omega, bl_alloc (yb.out.trans (hY.below (by omega) (fun k hk => by omega))) _⟩
  · have := Blk.new Y 161 [.slice va 1 vc, .slice none 0 0, .slice none 0 0, .slice none 0 0, .bool false, .bool false]
    rw [hsY] at this
    exact this
  · have h6 : w.heap.size + 3 ≤ w6.heap.size := by omega
    exact own_base8 (own_only9 ho9.out (hY.trans (Only.of_below hYa)) (fun k hk => by omega)) (by omega)
end Go.Proofs.YtepdfkgadigafaaGreatDoor
