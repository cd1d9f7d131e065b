/-
  book.Same: two cases; of chapter 32 (printed by gen_cmp.py).
  Conditions: as each theorem states them.
-/
import Derived.Test.YtaginadnaajleaaDoorCmp1
import Derived.Test.YtaginadnaajleaaDoorCmp0
import Derived.Deep.CutBlock
import Derived.Deep.RegionHeld3
namespace Go.Proofs.YtaginadnaajleaaDoor
open Go.RowKit
set_option linter.unusedVariables false
set_option linter.unusedSimpArgs false
open BM (Cs)
/-- a case's options -/
def OptsAt (w : World) (g : Nat) (c : Cs) (a : Option Addr) (n : Nat) : Prop := Blk w g 26 [.bool c.quiet, .bool c.separate, .bool c.place, .bool c.extended, .slice a c.inputs.length n]
theorem two_new (w : World) (t : TypeId) (c1 c2 : List Value) : Blk ((w.alloc (.cells c1.toArray t)).alloc (.cells c2.toArray t)).drew w.heap.size t c1 ∧ Blk ((w.alloc (.cells c1.toArray t)).alloc (.cells c2.toArray t)).drew (w.heap.size + 1) t c2 := by
  refine ⟨((Blk.new w t c1).alloc _).drew, ?_⟩
  have := (Blk.new (w.alloc (.cells c1.toArray t)) t c2).drew
  rwa [World.size_alloc] at this
theorem cells5o {w : World} {g : Nat} {t : TypeId} {v0 v1 v2 v3 v4 : Value} (h : Blk w g t [v0, v1, v2, v3, v4]) :
    w.cell? ⟨g, 0, none⟩ = some v0 ∧ w.cell? ⟨g, 1, none⟩ = some v1 ∧ w.cell? ⟨g, 2, none⟩ = some v2 ∧ w.cell? ⟨g, 3, none⟩ = some v3 ∧ w.cell? ⟨g, 4, none⟩ = some v4 := ⟨h.cell 0, h.cell 1, h.cell 2, h.cell 3, h.cell 4⟩
set_option maxHeartbeats 8000000 in
set_option maxRecDepth 100000 in
/-- the program's answer -/
theorem booksame_any (c d : Cs) (sa1 ia1 fa1 la1 sa2 ia2 fa2 la2 : Option Addr) (sc1 ic1 fc1 lc1 sc2 ic2 fc2 lc2 : Nat) (w : World) (h1 : CsAt w c (.slice sa1 c.sed.length sc1) (.slice ia1 c.inputs.length ic1) (.slice fa1 c.files.length fc1) (.slice la1 c.lines.length lc1)) (h2 : CsAt w d (.slice sa2 d.sed.length sc2) (.slice ia2 d.inputs.length ic2) (.slice fa2 d.files.length fc2) (.slice la2 d.lines.length lc2)) (z1 : Fits c) (z2 : Fits d) :
    Calls Tryd.prog 18 #[.agg #[.slice sa1 c.sed.length sc1, .bool c.quiet, .bool c.separate, .bool c.place, .bool c.extended, .slice ia1 c.inputs.length ic1, .slice fa1 c.files.length fc1, .int .i64 c.cap, .int .i64 c.period, .int .i64 c.fuel, .slice la1 c.lines.length lc1], .agg #[.slice sa2 d.sed.length sc2, .bool d.quiet, .bool d.separate, .bool d.place, .bool d.extended, .slice ia2 d.inputs.length ic2, .slice fa2 d.files.length fc2, .int .i64 d.cap, .int .i64 d.period, .int .i64 d.fuel, .slice la2 d.lines.length lc2]] w fun e w' => e = .returned (.bool (sameS c d)) ∧ Below w.heap.size w w' := by
  obtain ⟨S, hSd⟩ : ∃ S, sameS c d = S := ⟨_, rfl⟩
  rw [hSd]
  obtain ⟨W, hW⟩ : ∃ W, (w.alloc (.cells ([.slice sa1 c.sed.length sc1, .bool c.quiet, .bool c.separate, .bool c.place, .bool c.extended, .slice ia1 c.inputs.length ic1, .slice fa1 c.files.length fc1, .int .i64 c.cap, .int .i64 c.period, .int .i64 c.fuel, .slice la1 c.lines.length lc1] : List Value).toArray 29)).alloc (.cells ([.slice sa2 d.sed.length sc2, .bool d.quiet, .bool d.separate, .bool d.place, .bool d.extended, .slice ia2 d.inputs.length ic2, .slice fa2 d.files.length fc2, .int .i64 d.cap, .int .i64 d.period, .int .i64 d.fuel, .slice la2 d.lines.length lc2] : List Value).toArray 29) = W := ⟨_, rfl⟩
  have hB : Below w.heap.size w W := by rw [← hW]; exact bl_alloc (bl_alloc (Below.refl _ _) _) _
  have hk1 := (Blk.new w 29 [.slice sa1 c.sed.length sc1, .bool c.quiet, .bool c.separate, .bool c.place, .bool c.extended, .slice ia1 c.inputs.length ic1, .slice fa1 c.files.length fc1, .int .i64 c.cap, .int .i64 c.period, .int .i64 c.fuel, .slice la1 c.lines.length lc1]).alloc (.cells ([.slice sa2 d.sed.length sc2, .bool d.quiet, .bool d.separate, .bool d.place, .bool d.extended, .slice ia2 d.inputs.length ic2, .slice fa2 d.files.length fc2, .int .i64 d.cap, .int .i64 d.period, .int .i64 d.fuel, .slice la2 d.lines.length lc2] : List Value).toArray 29)
  have hk2 := Blk.new (w.alloc (.cells ([.slice sa1 c.sed.length sc1, .bool c.quiet, .bool c.separate, .bool c.place, .bool c.extended, .slice ia1 c.inputs.length ic1, .slice fa1 c.files.length fc1, .int .i64 c.cap, .int .i64 c.period, .int .i64 c.fuel, .slice la1 c.lines.length lc1] : List Value).toArray 29)) 29 [.slice sa2 d.sed.length sc2, .bool d.quiet, .bool d.separate, .bool d.place, .bool d.extended, .slice ia2 d.inputs.length ic2, .slice fa2 d.files.length fc2, .int .i64 d.cap, .int .i64 d.period, .int .i64 d.fuel, .slice la2 d.lines.length lc2]
  rw [hW] at hk1 hk2
  rw [World.size_alloc] at hk2
  have hlt1 := hk1.lt
  have hlt2 := hk2.lt
  obtain ⟨A0, A1, A2, A3, A4, A5, A6, A7, A8, A9, A10⟩ := cells11a hk1
  obtain ⟨B0, B1, B2, B3, B4, B5, B6, B7, B8, B9, B10⟩ := cells11a hk2
  clear hk1 hk2
  have n1 := h1.below hB
  have n2 := h2.below hB
  clear h1 h2
  have fs1 := z1.fil
  have fs2 := z2.fil
  have s1 := z1.sed
  have s2 := z2.sed
  have s3 := z1.inputs
  have s4 := z2.inputs
  have s5 := z1.files
  have s6 := z2.files
  have s7 := z1.lines
  have s8 := z2.lines
  have Hi := fun w' (hb : Below W.heap.size W w') => show Calls Tryd.prog 35 #[.slice ia1 c.inputs.length ic1, .slice ia2 d.inputs.length ic2] w' fun e w2 => e = .returned (.bool (decide (c.inputs = d.inputs))) ∧ Below W.heap.size W w2 from (eqtexts_any _ _ c.inputs d.inputs w' (by omega) (by omega) (n1.inp.below hb) (n2.inp.below hb)).mono fun e w2 he => by obtain ⟨he, m, rfl⟩ := he; exact ⟨he, bl_drewN hb m⟩
  have Hs := fun w' (hb : Below W.heap.size W w') => show Calls Tryd.prog 37 #[.slice sa1 c.sed.length sc1, .slice sa2 d.sed.length sc2] w' fun e w2 => e = .returned (.bool (decide (c.sed = d.sed))) ∧ Below W.heap.size W w2 from (eqbytes_any _ _ c.sed d.sed w'  (n1.sed.below hb) (n2.sed.below hb)).mono fun e w2 he => by obtain ⟨he, rfl⟩ := he; exact ⟨he, hb⟩
  have Hf := fun w' (hb : Below W.heap.size W w') => show Calls Tryd.prog 38 #[.slice fa1 c.files.length fc1, .slice fa2 d.files.length fc2, .func (.func 36) #[] #[]] w' fun e w2 => e = .returned (.bool (decide (c.files = d.files))) ∧ Below W.heap.size W w2 from (eqfiles_any _ _ c.files d.files w' (by omega) (by omega) (n1.fil.below hb) (n2.fil.below hb)).mono fun e w2 he => ⟨he.1, bl_trans hb he.2⟩
  have Hl := fun w' (hb : Below W.heap.size W w') => show Calls Tryd.prog 35 #[.slice la1 c.lines.length lc1, .slice la2 d.lines.length lc2] w' fun e w2 => e = .returned (.bool (decide (c.lines = d.lines))) ∧ Below W.heap.size W w2 from (eqtexts_any _ _ c.lines d.lines w' (by omega) (by omega) (n1.lin.below hb) (n2.lin.below hb)).mono fun e w2 he => by obtain ⟨he, m, rfl⟩ := he; exact ⟨he, bl_drewN hb m⟩
  have KA : Hid (∀ w', Below W.heap.size W w' → w'.cell? ⟨w.heap.size, 0, none⟩ = some (.slice sa1 c.sed.length sc1) ∧ w'.cell? ⟨w.heap.size, 6, none⟩ = some (.slice fa1 c.files.length fc1) ∧ w'.cell? ⟨w.heap.size, 7, none⟩ = some (.int .i64 c.cap) ∧ w'.cell? ⟨w.heap.size, 8, none⟩ = some (.int .i64 c.period) ∧ w'.cell? ⟨w.heap.size, 9, none⟩ = some (.int .i64 c.fuel) ∧ w'.cell? ⟨w.heap.size, 10, none⟩ = some (.slice la1 c.lines.length lc1) ∧ w'.cell? ⟨w.heap.size + 1, 0, none⟩ = some (.slice sa2 d.sed.length sc2) ∧ w'.cell? ⟨w.heap.size + 1, 6, none⟩ = some (.slice fa2 d.files.length fc2) ∧ w'.cell? ⟨w.heap.size + 1, 7, none⟩ = some (.int .i64 d.cap) ∧ w'.cell? ⟨w.heap.size + 1, 8, none⟩ = some (.int .i64 d.period) ∧ w'.cell? ⟨w.heap.size + 1, 9, none⟩ = some (.int .i64 d.fuel) ∧ w'.cell? ⟨w.heap.size + 1, 10, none⟩ = some (.slice la2 d.lines.length lc2)) := Lib.hid (fun w' h => ⟨(h.cell (p := ⟨w.heap.size, 0, none⟩) hlt1).trans A0, (h.cell (p := ⟨w.heap.size, 6, none⟩) hlt1).trans A6, (h.cell (p := ⟨w.heap.size, 7, none⟩) hlt1).trans A7, (h.cell (p := ⟨w.heap.size, 8, none⟩) hlt1).trans A8, (h.cell (p := ⟨w.heap.size, 9, none⟩) hlt1).trans A9, (h.cell (p := ⟨w.heap.size, 10, none⟩) hlt1).trans A10, (h.cell (p := ⟨w.heap.size + 1, 0, none⟩) hlt2).trans B0, (h.cell (p := ⟨w.heap.size + 1, 6, none⟩) hlt2).trans B6, (h.cell (p := ⟨w.heap.size + 1, 7, none⟩) hlt2).trans B7, (h.cell (p := ⟨w.heap.size + 1, 8, none⟩) hlt2).trans B8, (h.cell (p := ⟨w.heap.size + 1, 9, none⟩) hlt2).trans B9, (h.cell (p := ⟨w.heap.size + 1, 10, none⟩) hlt2).trans B10⟩)
  have hS := fun w' (h : Below W.heap.size W w') => show Below W.heap.size W w' ∧ w'.cell? ⟨w.heap.size, 1, none⟩ = some (.bool c.quiet) ∧ w'.cell? ⟨w.heap.size, 2, none⟩ = some (.bool c.separate) ∧ w'.cell? ⟨w.heap.size, 3, none⟩ = some (.bool c.place) ∧ w'.cell? ⟨w.heap.size, 4, none⟩ = some (.bool c.extended) ∧ w'.cell? ⟨w.heap.size, 5, none⟩ = some (.slice ia1 c.inputs.length ic1) ∧ w'.cell? ⟨w.heap.size + 1, 1, none⟩ = some (.bool d.quiet) ∧ w'.cell? ⟨w.heap.size + 1, 2, none⟩ = some (.bool d.separate) ∧ w'.cell? ⟨w.heap.size + 1, 3, none⟩ = some (.bool d.place) ∧ w'.cell? ⟨w.heap.size + 1, 4, none⟩ = some (.bool d.extended) ∧ w'.cell? ⟨w.heap.size + 1, 5, none⟩ = some (.slice ia2 d.inputs.length ic2) from ⟨h, (h.cell (p := ⟨w.heap.size, 1, none⟩) hlt1).trans A1, (h.cell (p := ⟨w.heap.size, 2, none⟩) hlt1).trans A2, (h.cell (p := ⟨w.heap.size, 3, none⟩) hlt1).trans A3, (h.cell (p := ⟨w.heap.size, 4, none⟩) hlt1).trans A4, (h.cell (p := ⟨w.heap.size, 5, none⟩) hlt1).trans A5, (h.cell (p := ⟨w.heap.size + 1, 1, none⟩) hlt2).trans B1, (h.cell (p := ⟨w.heap.size + 1, 2, none⟩) hlt2).trans B2, (h.cell (p := ⟨w.heap.size + 1, 3, none⟩) hlt2).trans B3, (h.cell (p := ⟨w.heap.size + 1, 4, none⟩) hlt2).trans B4, (h.cell (p := ⟨w.heap.size + 1, 5, none⟩) hlt2).trans B5⟩
  have hs0 := hS _ (bl_drew (Below.refl _ _))
  replace hS := Lib.hid hS
  have hb2 : Below W.heap.size W W := Below.refl _ _
  clear n1 n2 z1 z2 fs1 fs2 s1 s2 s3 s4 s5 s6 s7 s8
  replace Hi := Lib.hid Hi
  replace Hs := Lib.hid Hs
  replace Hf := Lib.hid Hf
  replace Hl := Lib.hid Hl
  go_enter Tryd.func18, Tryd.ntmps18
  go_upto_region 1 with fail
  try rw [hW]
  clear hW
  go_cut [5, 6] from 8 to 11 (fun so sp wx => ∃ go gp, so = .pointer (some ⟨go, 0, none⟩) ∧ sp = .pointer (some ⟨gp, 0, none⟩) ∧ OptsAt wx go c ia1 ic1 ∧ OptsAt wx gp d ia2 ic2 ∧ Below W.heap.size W wx)
  case first =>
    go_region_held3 (fun w' => Below W.heap.size W w' ∧ w'.cell? ⟨w.heap.size, 1, none⟩ = some (.bool c.quiet) ∧ w'.cell? ⟨w.heap.size, 2, none⟩ = some (.bool c.separate) ∧ w'.cell? ⟨w.heap.size, 3, none⟩ = some (.bool c.place) ∧ w'.cell? ⟨w.heap.size, 4, none⟩ = some (.bool c.extended) ∧ w'.cell? ⟨w.heap.size, 5, none⟩ = some (.slice ia1 c.inputs.length ic1) ∧ w'.cell? ⟨w.heap.size + 1, 1, none⟩ = some (.bool d.quiet) ∧ w'.cell? ⟨w.heap.size + 1, 2, none⟩ = some (.bool d.separate) ∧ w'.cell? ⟨w.heap.size + 1, 3, none⟩ = some (.bool d.place) ∧ w'.cell? ⟨w.heap.size + 1, 4, none⟩ = some (.bool d.extended) ∧ w'.cell? ⟨w.heap.size + 1, 5, none⟩ = some (.slice ia2 d.inputs.length ic2))
      (first | exact hs0 | exact hS.out _ (by repeat (first | exact Below.refl _ _ | refine bl_alloc ?_ _ | refine bl_drew ?_)))
      (fail)
    all_goals go_wp2_with fail
    all_goals go_meet
    all_goals first
      | exact ⟨_, _, rfl, rfl, (two_new W _ _ _).1, (two_new W _ _ _).2, bl_drew (bl_alloc (bl_alloc (Below.refl _ _) _) _)⟩
      | exact ⟨_, _, rfl, rfl, (two_new W _ _ _).2, (two_new W _ _ _).1, bl_drew (bl_alloc (bl_alloc (Below.refl _ _) _) _)⟩
  case rest =>
  obtain ⟨go, gp, rfl, rfl, hO, hP, hb3⟩ := hcut
  replace Hi := Hi.out
  replace Hs := Hs.out
  replace Hf := Hf.out
  replace Hl := Hl.out
  obtain ⟨P0, P1, P2, P3, P4⟩ := cells5o hP
  obtain ⟨O0, O1, O2, O3, O4⟩ := cells5o hO
  clear hO hP
  clear hb2 hs0 hS A0 A1 A2 A3 A4 A5 A6 A7 A8 A9 A10 B0 B1 B2 B3 B4 B5 B6 B7 B8 B9 B10
  have hb2 := hb3
  clear hb3
  obtain ⟨A0, A6, A7, A8, A9, A10, B0, B6, B7, B8, B9, B10⟩ := KA.out _ hb2
  by_cases e_quiet : c.quiet = d.quiet
  case neg =>
    have hR : sameS c d = false := by simp [sameS, e_quiet]
    obtain rfl := hSd.symm.trans hR
    clear hR
    replace hB := Lib.hid hB
    have q_quiet : d.quiet = !c.quiet := by cases h1 : c.quiet <;> cases h2 : d.quiet <;> simp_all
    rw [q_quiet] at P0
    clear q_quiet
    clear e_quiet
    replace Hi := Lib.hid Hi
    replace Hs := Lib.hid Hs
    replace Hf := Lib.hid Hf
    replace Hl := Lib.hid Hl
    go_wp2_with (first
      | (go_at_call 35; first | ((with_reducible refine (Hi.out _ hb2).mono ?_); rintro e w2 ⟨rfl, hb2⟩; obtain ⟨A0, A6, A7, A8, A9, A10, B0, B6, B7, B8, B9, B10⟩ := KA.out _ hb2) | ((with_reducible refine (Hl.out _ hb2).mono ?_); rintro e w2 ⟨rfl, hb2⟩; obtain ⟨A0, A6, A7, A8, A9, A10, B0, B6, B7, B8, B9, B10⟩ := KA.out _ hb2))
      | (go_at_call 37; first | ((with_reducible refine (Hs.out _ hb2).mono ?_); rintro e w2 ⟨rfl, hb2⟩; obtain ⟨A0, A6, A7, A8, A9, A10, B0, B6, B7, B8, B9, B10⟩ := KA.out _ hb2))
      | (go_at_call 38; first | ((with_reducible refine (Hf.out _ hb2).mono ?_); rintro e w2 ⟨rfl, hb2⟩; obtain ⟨A0, A6, A7, A8, A9, A10, B0, B6, B7, B8, B9, B10⟩ := KA.out _ hb2)))
    all_goals go_ret
    all_goals exact ⟨rfl, bl_trans hB.out hb2⟩
  case pos =>
  rw [← e_quiet] at P0
  replace e_quiet := Lib.hid e_quiet
  by_cases e_separate : c.separate = d.separate
  case neg =>
    have hR : sameS c d = false := by simp [sameS, e_quiet.out, e_separate]
    obtain rfl := hSd.symm.trans hR
    clear hR
    replace hB := Lib.hid hB
    have q_separate : d.separate = !c.separate := by cases h1 : c.separate <;> cases h2 : d.separate <;> simp_all
    rw [q_separate] at P1
    clear q_separate
    clear e_separate
    replace Hi := Lib.hid Hi
    replace Hs := Lib.hid Hs
    replace Hf := Lib.hid Hf
    replace Hl := Lib.hid Hl
    go_wp2_with (first
      | (go_at_call 35; first | ((with_reducible refine (Hi.out _ hb2).mono ?_); rintro e w2 ⟨rfl, hb2⟩; obtain ⟨A0, A6, A7, A8, A9, A10, B0, B6, B7, B8, B9, B10⟩ := KA.out _ hb2) | ((with_reducible refine (Hl.out _ hb2).mono ?_); rintro e w2 ⟨rfl, hb2⟩; obtain ⟨A0, A6, A7, A8, A9, A10, B0, B6, B7, B8, B9, B10⟩ := KA.out _ hb2))
      | (go_at_call 37; first | ((with_reducible refine (Hs.out _ hb2).mono ?_); rintro e w2 ⟨rfl, hb2⟩; obtain ⟨A0, A6, A7, A8, A9, A10, B0, B6, B7, B8, B9, B10⟩ := KA.out _ hb2))
      | (go_at_call 38; first | ((with_reducible refine (Hf.out _ hb2).mono ?_); rintro e w2 ⟨rfl, hb2⟩; obtain ⟨A0, A6, A7, A8, A9, A10, B0, B6, B7, B8, B9, B10⟩ := KA.out _ hb2)))
    all_goals go_ret
    all_goals exact ⟨rfl, bl_trans hB.out hb2⟩
  case pos =>
  rw [← e_separate] at P1
  replace e_separate := Lib.hid e_separate
  by_cases e_place : c.place = d.place
  case neg =>
    have hR : sameS c d = false := by simp [sameS, e_quiet.out, e_separate.out, e_place]
    obtain rfl := hSd.symm.trans hR
    clear hR
    replace hB := Lib.hid hB
    have q_place : d.place = !c.place := by cases h1 : c.place <;> cases h2 : d.place <;> simp_all
    rw [q_place] at P2
    clear q_place
    clear e_place
    replace Hi := Lib.hid Hi
    replace Hs := Lib.hid Hs
    replace Hf := Lib.hid Hf
    replace Hl := Lib.hid Hl
    go_wp2_with (first
      | (go_at_call 35; first | ((with_reducible refine (Hi.out _ hb2).mono ?_); rintro e w2 ⟨rfl, hb2⟩; obtain ⟨A0, A6, A7, A8, A9, A10, B0, B6, B7, B8, B9, B10⟩ := KA.out _ hb2) | ((with_reducible refine (Hl.out _ hb2).mono ?_); rintro e w2 ⟨rfl, hb2⟩; obtain ⟨A0, A6, A7, A8, A9, A10, B0, B6, B7, B8, B9, B10⟩ := KA.out _ hb2))
      | (go_at_call 37; first | ((with_reducible refine (Hs.out _ hb2).mono ?_); rintro e w2 ⟨rfl, hb2⟩; obtain ⟨A0, A6, A7, A8, A9, A10, B0, B6, B7, B8, B9, B10⟩ := KA.out _ hb2))
      | (go_at_call 38; first | ((with_reducible refine (Hf.out _ hb2).mono ?_); rintro e w2 ⟨rfl, hb2⟩; obtain ⟨A0, A6, A7, A8, A9, A10, B0, B6, B7, B8, B9, B10⟩ := KA.out _ hb2)))
    all_goals go_ret
    all_goals exact ⟨rfl, bl_trans hB.out hb2⟩
  case pos =>
  rw [← e_place] at P2
  replace e_place := Lib.hid e_place
  by_cases e_extended : c.extended = d.extended
  case neg =>
    have hR : sameS c d = false := by simp [sameS, e_quiet.out, e_separate.out, e_place.out, e_extended]
    obtain rfl := hSd.symm.trans hR
    clear hR
    replace hB := Lib.hid hB
    have q_extended : d.extended = !c.extended := by cases h1 : c.extended <;> cases h2 : d.extended <;> simp_all
    rw [q_extended] at P3
    clear q_extended
    clear e_extended
    replace Hi := Lib.hid Hi
    replace Hs := Lib.hid Hs
    replace Hf := Lib.hid Hf
    replace Hl := Lib.hid Hl
    go_wp2_with (first
      | (go_at_call 35; first | ((with_reducible refine (Hi.out _ hb2).mono ?_); rintro e w2 ⟨rfl, hb2⟩; obtain ⟨A0, A6, A7, A8, A9, A10, B0, B6, B7, B8, B9, B10⟩ := KA.out _ hb2) | ((with_reducible refine (Hl.out _ hb2).mono ?_); rintro e w2 ⟨rfl, hb2⟩; obtain ⟨A0, A6, A7, A8, A9, A10, B0, B6, B7, B8, B9, B10⟩ := KA.out _ hb2))
      | (go_at_call 37; first | ((with_reducible refine (Hs.out _ hb2).mono ?_); rintro e w2 ⟨rfl, hb2⟩; obtain ⟨A0, A6, A7, A8, A9, A10, B0, B6, B7, B8, B9, B10⟩ := KA.out _ hb2))
      | (go_at_call 38; first | ((with_reducible refine (Hf.out _ hb2).mono ?_); rintro e w2 ⟨rfl, hb2⟩; obtain ⟨A0, A6, A7, A8, A9, A10, B0, B6, B7, B8, B9, B10⟩ := KA.out _ hb2)))
    all_goals go_ret
    all_goals exact ⟨rfl, bl_trans hB.out hb2⟩
  case pos =>
  rw [← e_extended] at P3
  replace e_extended := Lib.hid e_extended
  by_cases e_inputs : c.inputs = d.inputs
  case neg =>
    have hR : sameS c d = false := by simp [sameS, e_quiet.out, e_separate.out, e_place.out, e_extended.out, e_inputs]
    obtain rfl := hSd.symm.trans hR
    clear hR
    replace hB := Lib.hid hB
    rw [decide_eq_false e_inputs] at Hi
    replace Hi := Lib.hid Hi
    clear e_inputs
    replace Hs := Lib.hid Hs
    replace Hf := Lib.hid Hf
    replace Hl := Lib.hid Hl
    go_wp2_with (first
      | (go_at_call 35; first | ((with_reducible refine (Hi.out _ hb2).mono ?_); rintro e w2 ⟨rfl, hb2⟩; obtain ⟨A0, A6, A7, A8, A9, A10, B0, B6, B7, B8, B9, B10⟩ := KA.out _ hb2) | ((with_reducible refine (Hl.out _ hb2).mono ?_); rintro e w2 ⟨rfl, hb2⟩; obtain ⟨A0, A6, A7, A8, A9, A10, B0, B6, B7, B8, B9, B10⟩ := KA.out _ hb2))
      | (go_at_call 37; first | ((with_reducible refine (Hs.out _ hb2).mono ?_); rintro e w2 ⟨rfl, hb2⟩; obtain ⟨A0, A6, A7, A8, A9, A10, B0, B6, B7, B8, B9, B10⟩ := KA.out _ hb2))
      | (go_at_call 38; first | ((with_reducible refine (Hf.out _ hb2).mono ?_); rintro e w2 ⟨rfl, hb2⟩; obtain ⟨A0, A6, A7, A8, A9, A10, B0, B6, B7, B8, B9, B10⟩ := KA.out _ hb2)))
    all_goals go_ret
    all_goals exact ⟨rfl, bl_trans hB.out hb2⟩
  case pos =>
  rw [decide_eq_true e_inputs] at Hi
  replace Hi := Lib.hid Hi
  replace e_inputs := Lib.hid e_inputs
  by_cases e_sed : c.sed = d.sed
  case neg =>
    have hR : sameS c d = false := by simp [sameS, e_quiet.out, e_separate.out, e_place.out, e_extended.out, e_inputs.out, e_sed]
    obtain rfl := hSd.symm.trans hR
    clear hR
    replace hB := Lib.hid hB
    rw [decide_eq_false e_sed] at Hs
    replace Hs := Lib.hid Hs
    clear e_sed
    replace Hf := Lib.hid Hf
    replace Hl := Lib.hid Hl
    go_wp2_with (first
      | (go_at_call 35; first | ((with_reducible refine (Hi.out _ hb2).mono ?_); rintro e w2 ⟨rfl, hb2⟩; obtain ⟨A0, A6, A7, A8, A9, A10, B0, B6, B7, B8, B9, B10⟩ := KA.out _ hb2) | ((with_reducible refine (Hl.out _ hb2).mono ?_); rintro e w2 ⟨rfl, hb2⟩; obtain ⟨A0, A6, A7, A8, A9, A10, B0, B6, B7, B8, B9, B10⟩ := KA.out _ hb2))
      | (go_at_call 37; first | ((with_reducible refine (Hs.out _ hb2).mono ?_); rintro e w2 ⟨rfl, hb2⟩; obtain ⟨A0, A6, A7, A8, A9, A10, B0, B6, B7, B8, B9, B10⟩ := KA.out _ hb2))
      | (go_at_call 38; first | ((with_reducible refine (Hf.out _ hb2).mono ?_); rintro e w2 ⟨rfl, hb2⟩; obtain ⟨A0, A6, A7, A8, A9, A10, B0, B6, B7, B8, B9, B10⟩ := KA.out _ hb2)))
    all_goals go_ret
    all_goals exact ⟨rfl, bl_trans hB.out hb2⟩
  case pos =>
  rw [decide_eq_true e_sed] at Hs
  replace Hs := Lib.hid Hs
  replace e_sed := Lib.hid e_sed
  by_cases e_files : c.files = d.files
  case neg =>
    have hR : sameS c d = false := by simp [sameS, e_quiet.out, e_separate.out, e_place.out, e_extended.out, e_inputs.out, e_sed.out, e_files]
    obtain rfl := hSd.symm.trans hR
    clear hR
    replace hB := Lib.hid hB
    rw [decide_eq_false e_files] at Hf
    replace Hf := Lib.hid Hf
    clear e_files
    replace Hl := Lib.hid Hl
    go_wp2_with (first
      | (go_at_call 35; first | ((with_reducible refine (Hi.out _ hb2).mono ?_); rintro e w2 ⟨rfl, hb2⟩; obtain ⟨A0, A6, A7, A8, A9, A10, B0, B6, B7, B8, B9, B10⟩ := KA.out _ hb2) | ((with_reducible refine (Hl.out _ hb2).mono ?_); rintro e w2 ⟨rfl, hb2⟩; obtain ⟨A0, A6, A7, A8, A9, A10, B0, B6, B7, B8, B9, B10⟩ := KA.out _ hb2))
      | (go_at_call 37; first | ((with_reducible refine (Hs.out _ hb2).mono ?_); rintro e w2 ⟨rfl, hb2⟩; obtain ⟨A0, A6, A7, A8, A9, A10, B0, B6, B7, B8, B9, B10⟩ := KA.out _ hb2))
      | (go_at_call 38; first | ((with_reducible refine (Hf.out _ hb2).mono ?_); rintro e w2 ⟨rfl, hb2⟩; obtain ⟨A0, A6, A7, A8, A9, A10, B0, B6, B7, B8, B9, B10⟩ := KA.out _ hb2)))
    all_goals go_ret
    all_goals exact ⟨rfl, bl_trans hB.out hb2⟩
  case pos =>
  rw [decide_eq_true e_files] at Hf
  replace Hf := Lib.hid Hf
  replace e_files := Lib.hid e_files
  by_cases e_cap : c.cap = d.cap
  case neg =>
    have hR : sameS c d = false := by simp [sameS, e_quiet.out, e_separate.out, e_place.out, e_extended.out, e_inputs.out, e_sed.out, e_files.out, e_cap]
    obtain rfl := hSd.symm.trans hR
    clear hR
    replace hB := Lib.hid hB
    have q_cap : (c.cap == d.cap) = false := by simpa using e_cap
    replace e_cap := Lib.hid e_cap
    replace Hl := Lib.hid Hl
    go_wp2_with (first
      | (go_at_call 35; first | ((with_reducible refine (Hi.out _ hb2).mono ?_); rintro e w2 ⟨rfl, hb2⟩; obtain ⟨A0, A6, A7, A8, A9, A10, B0, B6, B7, B8, B9, B10⟩ := KA.out _ hb2) | ((with_reducible refine (Hl.out _ hb2).mono ?_); rintro e w2 ⟨rfl, hb2⟩; obtain ⟨A0, A6, A7, A8, A9, A10, B0, B6, B7, B8, B9, B10⟩ := KA.out _ hb2))
      | (go_at_call 37; first | ((with_reducible refine (Hs.out _ hb2).mono ?_); rintro e w2 ⟨rfl, hb2⟩; obtain ⟨A0, A6, A7, A8, A9, A10, B0, B6, B7, B8, B9, B10⟩ := KA.out _ hb2))
      | (go_at_call 38; first | ((with_reducible refine (Hf.out _ hb2).mono ?_); rintro e w2 ⟨rfl, hb2⟩; obtain ⟨A0, A6, A7, A8, A9, A10, B0, B6, B7, B8, B9, B10⟩ := KA.out _ hb2)))
    all_goals go_ret
    all_goals exact ⟨rfl, bl_trans hB.out hb2⟩
  case pos =>
  have q_cap : (c.cap == d.cap) = true := by simpa using e_cap
  replace e_cap := Lib.hid e_cap
  by_cases e_period : c.period = d.period
  case neg =>
    have hR : sameS c d = false := by simp [sameS, e_quiet.out, e_separate.out, e_place.out, e_extended.out, e_inputs.out, e_sed.out, e_files.out, e_cap.out, e_period]
    obtain rfl := hSd.symm.trans hR
    clear hR
    replace hB := Lib.hid hB
    have q_period : (c.period == d.period) = false := by simpa using e_period
    replace e_period := Lib.hid e_period
    replace Hl := Lib.hid Hl
    go_wp2_with (first
      | (go_at_call 35; first | ((with_reducible refine (Hi.out _ hb2).mono ?_); rintro e w2 ⟨rfl, hb2⟩; obtain ⟨A0, A6, A7, A8, A9, A10, B0, B6, B7, B8, B9, B10⟩ := KA.out _ hb2) | ((with_reducible refine (Hl.out _ hb2).mono ?_); rintro e w2 ⟨rfl, hb2⟩; obtain ⟨A0, A6, A7, A8, A9, A10, B0, B6, B7, B8, B9, B10⟩ := KA.out _ hb2))
      | (go_at_call 37; first | ((with_reducible refine (Hs.out _ hb2).mono ?_); rintro e w2 ⟨rfl, hb2⟩; obtain ⟨A0, A6, A7, A8, A9, A10, B0, B6, B7, B8, B9, B10⟩ := KA.out _ hb2))
      | (go_at_call 38; first | ((with_reducible refine (Hf.out _ hb2).mono ?_); rintro e w2 ⟨rfl, hb2⟩; obtain ⟨A0, A6, A7, A8, A9, A10, B0, B6, B7, B8, B9, B10⟩ := KA.out _ hb2)))
    all_goals go_ret
    all_goals exact ⟨rfl, bl_trans hB.out hb2⟩
  case pos =>
  have q_period : (c.period == d.period) = true := by simpa using e_period
  replace e_period := Lib.hid e_period
  by_cases e_fuel : c.fuel = d.fuel
  case neg =>
    have hR : sameS c d = false := by simp [sameS, e_quiet.out, e_separate.out, e_place.out, e_extended.out, e_inputs.out, e_sed.out, e_files.out, e_cap.out, e_period.out, e_fuel]
    obtain rfl := hSd.symm.trans hR
    clear hR
    replace hB := Lib.hid hB
    have q_fuel : (c.fuel == d.fuel) = false := by simpa using e_fuel
    replace e_fuel := Lib.hid e_fuel
    replace Hl := Lib.hid Hl
    go_wp2_with (first
      | (go_at_call 35; first | ((with_reducible refine (Hi.out _ hb2).mono ?_); rintro e w2 ⟨rfl, hb2⟩; obtain ⟨A0, A6, A7, A8, A9, A10, B0, B6, B7, B8, B9, B10⟩ := KA.out _ hb2) | ((with_reducible refine (Hl.out _ hb2).mono ?_); rintro e w2 ⟨rfl, hb2⟩; obtain ⟨A0, A6, A7, A8, A9, A10, B0, B6, B7, B8, B9, B10⟩ := KA.out _ hb2))
      | (go_at_call 37; first | ((with_reducible refine (Hs.out _ hb2).mono ?_); rintro e w2 ⟨rfl, hb2⟩; obtain ⟨A0, A6, A7, A8, A9, A10, B0, B6, B7, B8, B9, B10⟩ := KA.out _ hb2))
      | (go_at_call 38; first | ((with_reducible refine (Hf.out _ hb2).mono ?_); rintro e w2 ⟨rfl, hb2⟩; obtain ⟨A0, A6, A7, A8, A9, A10, B0, B6, B7, B8, B9, B10⟩ := KA.out _ hb2)))
    all_goals go_ret
    all_goals exact ⟨rfl, bl_trans hB.out hb2⟩
  case pos =>
  have q_fuel : (c.fuel == d.fuel) = true := by simpa using e_fuel
  replace e_fuel := Lib.hid e_fuel
  have hR : sameS c d = decide (c.lines = d.lines) := by simp [sameS, e_quiet.out, e_separate.out, e_place.out, e_extended.out, e_inputs.out, e_sed.out, e_files.out, e_cap.out, e_period.out, e_fuel.out]
  obtain rfl := hSd.symm.trans hR
  clear hR
  replace hB := Lib.hid hB
  replace Hl := Lib.hid Hl
  go_wp2_with (first
    | (go_at_call 35; first | ((with_reducible refine (Hi.out _ hb2).mono ?_); rintro e w2 ⟨rfl, hb2⟩; obtain ⟨A0, A6, A7, A8, A9, A10, B0, B6, B7, B8, B9, B10⟩ := KA.out _ hb2) | ((with_reducible refine (Hl.out _ hb2).mono ?_); rintro e w2 ⟨rfl, hb2⟩; obtain ⟨A0, A6, A7, A8, A9, A10, B0, B6, B7, B8, B9, B10⟩ := KA.out _ hb2))
    | (go_at_call 37; first | ((with_reducible refine (Hs.out _ hb2).mono ?_); rintro e w2 ⟨rfl, hb2⟩; obtain ⟨A0, A6, A7, A8, A9, A10, B0, B6, B7, B8, B9, B10⟩ := KA.out _ hb2))
    | (go_at_call 38; first | ((with_reducible refine (Hf.out _ hb2).mono ?_); rintro e w2 ⟨rfl, hb2⟩; obtain ⟨A0, A6, A7, A8, A9, A10, B0, B6, B7, B8, B9, B10⟩ := KA.out _ hb2)))
  all_goals go_ret
  all_goals exact ⟨rfl, bl_trans hB.out hb2⟩
end Go.Proofs.YtaginadnaajleaaDoor
