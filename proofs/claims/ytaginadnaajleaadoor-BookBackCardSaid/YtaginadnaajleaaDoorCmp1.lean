/-
  palinoderef32.Same: two cases; of chapter 32 (printed by gen_cmp.py).
  Conditions: as each theorem states them.
-/
import Derived.Test.YtaginadnaajleaaDoorGreatB
namespace Go.Proofs.YtaginadnaajleaaDoor
open Go.RowKit
set_option linter.unusedVariables false
set_option linter.unusedSimpArgs false
open BM (Cs)
theorem cells11a {w : World} {g : Nat} {t : TypeId} {v0 v1 v2 v3 v4 v5 v6 v7 v8 v9 v10 : Value} (h : Blk w g t [v0, v1, v2, v3, v4, v5, v6, v7, v8, v9, v10]) :
    w.cell? ⟨g, 0, none⟩ = some v0 ∧ w.cell? ⟨g, 1, none⟩ = some v1 ∧ w.cell? ⟨g, 2, none⟩ = some v2 ∧ w.cell? ⟨g, 3, none⟩ = some v3 ∧ w.cell? ⟨g, 4, none⟩ = some v4 ∧ w.cell? ⟨g, 5, none⟩ = some v5 ∧ w.cell? ⟨g, 6, none⟩ = some v6 ∧ w.cell? ⟨g, 7, none⟩ = some v7 ∧ w.cell? ⟨g, 8, none⟩ = some v8 ∧ w.cell? ⟨g, 9, none⟩ = some v9 ∧ w.cell? ⟨g, 10, none⟩ = some v10 :=
  ⟨h.cell 0, h.cell 1, h.cell 2, h.cell 3, h.cell 4, h.cell 5, h.cell 6, h.cell 7, h.cell 8, h.cell 9, h.cell 10⟩
/-- are two cases the same? -/
def sameS (c d : Cs) : Bool := decide (c.cap = d.cap ∧ c.period = d.period ∧ c.fuel = d.fuel ∧ c.quiet = d.quiet ∧ c.separate = d.separate ∧ c.place = d.place ∧ c.extended = d.extended ∧ c.sed = d.sed ∧ c.inputs = d.inputs ∧ c.lines = d.lines ∧ c.files = d.files)
theorem sameS_self (c : Cs) : sameS c c = true := by simp [sameS]
theorem same_by (va vb : Value) (xs ys : List UInt8) (w : World) (l1 : xs.length ≤ 100000000000) (l2 : ys.length ≤ 100000000000) (h1 : BysAt w va xs) (h2 : BysAt w vb ys) :
    Calls Tryd.prog 22 #[va, vb] w fun e w' => e = .returned (.bool (decide (xs = ys))) ∧ ∃ m, w' = w.drewN m := by
  obtain ⟨a1, c1, rfl, _, h1⟩ := h1
  obtain ⟨a2, c2, rfl, _, h2⟩ := h2
  exact same_bytes a1 a2 c1 c2 xs ys w (by omega) (by omega) h1 h2
set_option maxHeartbeats 8000000 in
set_option maxRecDepth 100000 in
/-- the document's answer -/
theorem refsame_any (c d : Cs) (sa1 ia1 fa1 la1 sa2 ia2 fa2 la2 : Option Addr) (sc1 ic1 fc1 lc1 sc2 ic2 fc2 lc2 : Nat) (w : World) (h1 : CsAt w c (.slice sa1 c.sed.length sc1) (.slice ia1 c.inputs.length ic1) (.slice fa1 c.files.length fc1) (.slice la1 c.lines.length lc1)) (h2 : CsAt w d (.slice sa2 d.sed.length sc2) (.slice ia2 d.inputs.length ic2) (.slice fa2 d.files.length fc2) (.slice la2 d.lines.length lc2)) (z1 : Fits c) (z2 : Fits d) :
    Calls Tryd.prog 9 #[.agg #[.slice sa1 c.sed.length sc1, .bool c.quiet, .bool c.separate, .bool c.place, .bool c.extended, .slice ia1 c.inputs.length ic1, .slice fa1 c.files.length fc1, .int .i64 c.cap, .int .i64 c.period, .int .i64 c.fuel, .slice la1 c.lines.length lc1], .agg #[.slice sa2 d.sed.length sc2, .bool d.quiet, .bool d.separate, .bool d.place, .bool d.extended, .slice ia2 d.inputs.length ic2, .slice fa2 d.files.length fc2, .int .i64 d.cap, .int .i64 d.period, .int .i64 d.fuel, .slice la2 d.lines.length lc2]] w fun e w' => e = .returned (.bool (sameS c d)) ∧ Below w.heap.size w w' := by
  obtain ⟨S, hSd⟩ : ∃ S, sameS c d = S := ⟨_, rfl⟩
  rw [hSd]
  obtain ⟨W, hW⟩ : ∃ W, (w.alloc (.cells ([.slice sa1 c.sed.length sc1, .bool c.quiet, .bool c.separate, .bool c.place, .bool c.extended, .slice ia1 c.inputs.length ic1, .slice fa1 c.files.length fc1, .int .i64 c.cap, .int .i64 c.period, .int .i64 c.fuel, .slice la1 c.lines.length lc1] : List Value).toArray 29)).alloc (.cells ([.slice sa2 d.sed.length sc2, .bool d.quiet, .bool d.separate, .bool d.place, .bool d.extended, .slice ia2 d.inputs.length ic2, .slice fa2 d.files.length fc2, .int .i64 d.cap, .int .i64 d.period, .int .i64 d.fuel, .slice la2 d.lines.length lc2] : List Value).toArray 29) = W := ⟨_, rfl⟩
  have hB : Below w.heap.size w W := by rw [← hW]; exact bl_alloc (bl_alloc (Below.refl _ _) _) _
  have hk1 := (Blk.new w 29 [.slice sa1 c.sed.length sc1, .bool c.quiet, .bool c.separate, .bool c.place, .bool c.extended, .slice ia1 c.inputs.length ic1, .slice fa1 c.files.length fc1, .int .i64 c.cap, .int .i64 c.period, .int .i64 c.fuel, .slice la1 c.lines.length lc1]).alloc (.cells ([.slice sa2 d.sed.length sc2, .bool d.quiet, .bool d.separate, .bool d.place, .bool d.extended, .slice ia2 d.inputs.length ic2, .slice fa2 d.files.length fc2, .int .i64 d.cap, .int .i64 d.period, .int .i64 d.fuel, .slice la2 d.lines.length lc2] : List Value).toArray 29)
  have hk2 := Blk.new (w.alloc (.cells ([.slice sa1 c.sed.length sc1, .bool c.quiet, .bool c.separate, .bool c.place, .bool c.extended, .slice ia1 c.inputs.length ic1, .slice fa1 c.files.length fc1, .int .i64 c.cap, .int .i64 c.period, .int .i64 c.fuel, .slice la1 c.lines.length lc1] : List Value).toArray 29)) 29 [.slice sa2 d.sed.length sc2, .bool d.quiet, .bool d.separate, .bool d.place, .bool d.extended, .slice ia2 d.inputs.length ic2, .slice fa2 d.files.length fc2, .int .i64 d.cap, .int .i64 d.period, .int .i64 d.fuel, .slice la2 d.lines.length lc2]
  rw [hW] at hk1 hk2
  rw [World.size_alloc] at hk2
  have hlt1 := hk1.lt
  have hlt2 := hk2.lt
  obtain ⟨A0, A1, A2, A3, A4, A5, A6, A7, A8, A9, A10⟩ := cells11a hk1
  obtain ⟨B0, B1, B2, B3, B4, B5, B6, B7, B8, B9, B10⟩ := cells11a hk2
  clear hk1 hk2
  have n1 := h1.below hB
  have n2 := h2.below hB
  clear h1 h2
  have fs1 := z1.fil
  have fs2 := z2.fil
  have s1 := z1.sed
  have s2 := z2.sed
  have s3 := z1.inputs
  have s4 := z2.inputs
  have s5 := z1.files
  have s6 := z2.files
  have s7 := z1.lines
  have s8 := z2.lines
  have Hs := fun w' (hb : Below W.heap.size W w') => show Calls Tryd.prog 22 #[.slice sa1 c.sed.length sc1, .slice sa2 d.sed.length sc2] w' fun e w2 => e = .returned (.bool (decide (c.sed = d.sed))) ∧ Below W.heap.size W w2 from (same_by _ _ c.sed d.sed w' s1 s2 (n1.sed.below hb) (n2.sed.below hb)).mono fun e w2 he => by obtain ⟨he, m, rfl⟩ := he; exact ⟨he, bl_drewN hb m⟩
  have Hi := fun w' (hb : Below W.heap.size W w') => show Calls Tryd.prog 23 #[.slice ia1 c.inputs.length ic1, .slice ia2 d.inputs.length ic2] w' fun e w2 => e = .returned (.bool (decide (c.inputs = d.inputs))) ∧ Below W.heap.size W w2 from (texts_any _ _ c.inputs d.inputs w' (by omega) (by omega) (n1.inp.below hb) (n2.inp.below hb)).mono fun e w2 he => by obtain ⟨he, m, rfl⟩ := he; exact ⟨he, bl_drewN hb m⟩
  have Hl := fun w' (hb : Below W.heap.size W w') => show Calls Tryd.prog 23 #[.slice la1 c.lines.length lc1, .slice la2 d.lines.length lc2] w' fun e w2 => e = .returned (.bool (decide (c.lines = d.lines))) ∧ Below W.heap.size W w2 from (texts_any _ _ c.lines d.lines w' (by omega) (by omega) (n1.lin.below hb) (n2.lin.below hb)).mono fun e w2 he => by obtain ⟨he, m, rfl⟩ := he; exact ⟨he, bl_drewN hb m⟩
  have Hf := fun w' (hb : Below W.heap.size W w') => show Calls Tryd.prog 24 #[.slice fa1 c.files.length fc1, .slice fa2 d.files.length fc2] w' fun e w2 => e = .returned (.bool (decide (c.files = d.files))) ∧ Below W.heap.size W w2 from (files_any _ _ c.files d.files w' (by omega) (by omega) fs1 fs2 (n1.fil.below hb) (n2.fil.below hb)).mono fun e w2 he => by obtain ⟨he, m, rfl⟩ := he; exact ⟨he, bl_drewN hb m⟩
  have KA : Hid (∀ w', Below W.heap.size W w' → w'.cell? ⟨w.heap.size, 0, none⟩ = some (.slice sa1 c.sed.length sc1) ∧ w'.cell? ⟨w.heap.size, 5, none⟩ = some (.slice ia1 c.inputs.length ic1) ∧ w'.cell? ⟨w.heap.size, 6, none⟩ = some (.slice fa1 c.files.length fc1) ∧ w'.cell? ⟨w.heap.size, 10, none⟩ = some (.slice la1 c.lines.length lc1) ∧ w'.cell? ⟨w.heap.size + 1, 0, none⟩ = some (.slice sa2 d.sed.length sc2) ∧ w'.cell? ⟨w.heap.size + 1, 5, none⟩ = some (.slice ia2 d.inputs.length ic2) ∧ w'.cell? ⟨w.heap.size + 1, 6, none⟩ = some (.slice fa2 d.files.length fc2) ∧ w'.cell? ⟨w.heap.size + 1, 10, none⟩ = some (.slice la2 d.lines.length lc2)) := Lib.hid (fun w' h => ⟨(h.cell (p := ⟨w.heap.size, 0, none⟩) hlt1).trans A0, (h.cell (p := ⟨w.heap.size, 5, none⟩) hlt1).trans A5, (h.cell (p := ⟨w.heap.size, 6, none⟩) hlt1).trans A6, (h.cell (p := ⟨w.heap.size, 10, none⟩) hlt1).trans A10, (h.cell (p := ⟨w.heap.size + 1, 0, none⟩) hlt2).trans B0, (h.cell (p := ⟨w.heap.size + 1, 5, none⟩) hlt2).trans B5, (h.cell (p := ⟨w.heap.size + 1, 6, none⟩) hlt2).trans B6, (h.cell (p := ⟨w.heap.size + 1, 10, none⟩) hlt2).trans B10⟩)
  have hb2 : Below W.heap.size W W := Below.refl _ _
  clear n1 n2 z1 z2 fs1 fs2 s1 s2 s3 s4 s5 s6 s7 s8
  go_enter Tryd.func9, Tryd.ntmps9
  go_upto_region 1 with fail
  try rw [hW]
  clear hW
  by_cases e_cap : c.cap = d.cap
  case neg =>
    have hR : sameS c d = false := by simp [sameS, e_cap]
    obtain rfl := hSd.symm.trans hR
    clear hR
    replace hB := Lib.hid hB
    have q_cap : (c.cap != d.cap) = true := by simpa using e_cap
    replace e_cap := Lib.hid e_cap
    replace Hs := Lib.hid Hs
    replace Hi := Lib.hid Hi
    replace Hl := Lib.hid Hl
    replace Hf := Lib.hid Hf
    go_wp2_with (first
      | (go_at_call 22; first | ((with_reducible refine (Hs.out _ hb2).mono ?_); rintro e w2 ⟨rfl, hb2⟩; obtain ⟨A0, A5, A6, A10, B0, B5, B6, B10⟩ := KA.out _ hb2))
      | (go_at_call 23; first | ((with_reducible refine (Hi.out _ hb2).mono ?_); rintro e w2 ⟨rfl, hb2⟩; obtain ⟨A0, A5, A6, A10, B0, B5, B6, B10⟩ := KA.out _ hb2) | ((with_reducible refine (Hl.out _ hb2).mono ?_); rintro e w2 ⟨rfl, hb2⟩; obtain ⟨A0, A5, A6, A10, B0, B5, B6, B10⟩ := KA.out _ hb2))
      | (go_at_call 24; first | ((with_reducible refine (Hf.out _ hb2).mono ?_); rintro e w2 ⟨rfl, hb2⟩; obtain ⟨A0, A5, A6, A10, B0, B5, B6, B10⟩ := KA.out _ hb2)))
    all_goals go_ret
    all_goals exact ⟨rfl, bl_trans hB.out hb2⟩
  case pos =>
  have q_cap : (c.cap != d.cap) = false := by simpa using e_cap
  replace e_cap := Lib.hid e_cap
  by_cases e_period : c.period = d.period
  case neg =>
    have hR : sameS c d = false := by simp [sameS, e_cap.out, e_period]
    obtain rfl := hSd.symm.trans hR
    clear hR
    replace hB := Lib.hid hB
    have q_period : (c.period != d.period) = true := by simpa using e_period
    replace e_period := Lib.hid e_period
    replace Hs := Lib.hid Hs
    replace Hi := Lib.hid Hi
    replace Hl := Lib.hid Hl
    replace Hf := Lib.hid Hf
    go_wp2_with (first
      | (go_at_call 22; first | ((with_reducible refine (Hs.out _ hb2).mono ?_); rintro e w2 ⟨rfl, hb2⟩; obtain ⟨A0, A5, A6, A10, B0, B5, B6, B10⟩ := KA.out _ hb2))
      | (go_at_call 23; first | ((with_reducible refine (Hi.out _ hb2).mono ?_); rintro e w2 ⟨rfl, hb2⟩; obtain ⟨A0, A5, A6, A10, B0, B5, B6, B10⟩ := KA.out _ hb2) | ((with_reducible refine (Hl.out _ hb2).mono ?_); rintro e w2 ⟨rfl, hb2⟩; obtain ⟨A0, A5, A6, A10, B0, B5, B6, B10⟩ := KA.out _ hb2))
      | (go_at_call 24; first | ((with_reducible refine (Hf.out _ hb2).mono ?_); rintro e w2 ⟨rfl, hb2⟩; obtain ⟨A0, A5, A6, A10, B0, B5, B6, B10⟩ := KA.out _ hb2)))
    all_goals go_ret
    all_goals exact ⟨rfl, bl_trans hB.out hb2⟩
  case pos =>
  have q_period : (c.period != d.period) = false := by simpa using e_period
  replace e_period := Lib.hid e_period
  by_cases e_fuel : c.fuel = d.fuel
  case neg =>
    have hR : sameS c d = false := by simp [sameS, e_cap.out, e_period.out, e_fuel]
    obtain rfl := hSd.symm.trans hR
    clear hR
    replace hB := Lib.hid hB
    have q_fuel : (c.fuel != d.fuel) = true := by simpa using e_fuel
    replace e_fuel := Lib.hid e_fuel
    replace Hs := Lib.hid Hs
    replace Hi := Lib.hid Hi
    replace Hl := Lib.hid Hl
    replace Hf := Lib.hid Hf
    go_wp2_with (first
      | (go_at_call 22; first | ((with_reducible refine (Hs.out _ hb2).mono ?_); rintro e w2 ⟨rfl, hb2⟩; obtain ⟨A0, A5, A6, A10, B0, B5, B6, B10⟩ := KA.out _ hb2))
      | (go_at_call 23; first | ((with_reducible refine (Hi.out _ hb2).mono ?_); rintro e w2 ⟨rfl, hb2⟩; obtain ⟨A0, A5, A6, A10, B0, B5, B6, B10⟩ := KA.out _ hb2) | ((with_reducible refine (Hl.out _ hb2).mono ?_); rintro e w2 ⟨rfl, hb2⟩; obtain ⟨A0, A5, A6, A10, B0, B5, B6, B10⟩ := KA.out _ hb2))
      | (go_at_call 24; first | ((with_reducible refine (Hf.out _ hb2).mono ?_); rintro e w2 ⟨rfl, hb2⟩; obtain ⟨A0, A5, A6, A10, B0, B5, B6, B10⟩ := KA.out _ hb2)))
    all_goals go_ret
    all_goals exact ⟨rfl, bl_trans hB.out hb2⟩
  case pos =>
  have q_fuel : (c.fuel != d.fuel) = false := by simpa using e_fuel
  replace e_fuel := Lib.hid e_fuel
  by_cases e_quiet : c.quiet = d.quiet
  case neg =>
    have hR : sameS c d = false := by simp [sameS, e_cap.out, e_period.out, e_fuel.out, e_quiet]
    obtain rfl := hSd.symm.trans hR
    clear hR
    replace hB := Lib.hid hB
    have q_quiet : d.quiet = !c.quiet := by cases h1 : c.quiet <;> cases h2 : d.quiet <;> simp_all
    rw [q_quiet] at B1
    clear q_quiet
    clear e_quiet
    replace Hs := Lib.hid Hs
    replace Hi := Lib.hid Hi
    replace Hl := Lib.hid Hl
    replace Hf := Lib.hid Hf
    go_wp2_with (first
      | (go_at_call 22; first | ((with_reducible refine (Hs.out _ hb2).mono ?_); rintro e w2 ⟨rfl, hb2⟩; obtain ⟨A0, A5, A6, A10, B0, B5, B6, B10⟩ := KA.out _ hb2))
      | (go_at_call 23; first | ((with_reducible refine (Hi.out _ hb2).mono ?_); rintro e w2 ⟨rfl, hb2⟩; obtain ⟨A0, A5, A6, A10, B0, B5, B6, B10⟩ := KA.out _ hb2) | ((with_reducible refine (Hl.out _ hb2).mono ?_); rintro e w2 ⟨rfl, hb2⟩; obtain ⟨A0, A5, A6, A10, B0, B5, B6, B10⟩ := KA.out _ hb2))
      | (go_at_call 24; first | ((with_reducible refine (Hf.out _ hb2).mono ?_); rintro e w2 ⟨rfl, hb2⟩; obtain ⟨A0, A5, A6, A10, B0, B5, B6, B10⟩ := KA.out _ hb2)))
    all_goals go_ret
    all_goals exact ⟨rfl, bl_trans hB.out hb2⟩
  case pos =>
  rw [← e_quiet] at B1
  replace e_quiet := Lib.hid e_quiet
  by_cases e_separate : c.separate = d.separate
  case neg =>
    have hR : sameS c d = false := by simp [sameS, e_cap.out, e_period.out, e_fuel.out, e_quiet.out, e_separate]
    obtain rfl := hSd.symm.trans hR
    clear hR
    replace hB := Lib.hid hB
    have q_separate : d.separate = !c.separate := by cases h1 : c.separate <;> cases h2 : d.separate <;> simp_all
    rw [q_separate] at B2
    clear q_separate
    clear e_separate
    replace Hs := Lib.hid Hs
    replace Hi := Lib.hid Hi
    replace Hl := Lib.hid Hl
    replace Hf := Lib.hid Hf
    go_wp2_with (first
      | (go_at_call 22; first | ((with_reducible refine (Hs.out _ hb2).mono ?_); rintro e w2 ⟨rfl, hb2⟩; obtain ⟨A0, A5, A6, A10, B0, B5, B6, B10⟩ := KA.out _ hb2))
      | (go_at_call 23; first | ((with_reducible refine (Hi.out _ hb2).mono ?_); rintro e w2 ⟨rfl, hb2⟩; obtain ⟨A0, A5, A6, A10, B0, B5, B6, B10⟩ := KA.out _ hb2) | ((with_reducible refine (Hl.out _ hb2).mono ?_); rintro e w2 ⟨rfl, hb2⟩; obtain ⟨A0, A5, A6, A10, B0, B5, B6, B10⟩ := KA.out _ hb2))
      | (go_at_call 24; first | ((with_reducible refine (Hf.out _ hb2).mono ?_); rintro e w2 ⟨rfl, hb2⟩; obtain ⟨A0, A5, A6, A10, B0, B5, B6, B10⟩ := KA.out _ hb2)))
    all_goals go_ret
    all_goals exact ⟨rfl, bl_trans hB.out hb2⟩
  case pos =>
  rw [← e_separate] at B2
  replace e_separate := Lib.hid e_separate
  by_cases e_place : c.place = d.place
  case neg =>
    have hR : sameS c d = false := by simp [sameS, e_cap.out, e_period.out, e_fuel.out, e_quiet.out, e_separate.out, e_place]
    obtain rfl := hSd.symm.trans hR
    clear hR
    replace hB := Lib.hid hB
    have q_place : d.place = !c.place := by cases h1 : c.place <;> cases h2 : d.place <;> simp_all
    rw [q_place] at B3
    clear q_place
    clear e_place
    replace Hs := Lib.hid Hs
    replace Hi := Lib.hid Hi
    replace Hl := Lib.hid Hl
    replace Hf := Lib.hid Hf
    go_wp2_with (first
      | (go_at_call 22; first | ((with_reducible refine (Hs.out _ hb2).mono ?_); rintro e w2 ⟨rfl, hb2⟩; obtain ⟨A0, A5, A6, A10, B0, B5, B6, B10⟩ := KA.out _ hb2))
      | (go_at_call 23; first | ((with_reducible refine (Hi.out _ hb2).mono ?_); rintro e w2 ⟨rfl, hb2⟩; obtain ⟨A0, A5, A6, A10, B0, B5, B6, B10⟩ := KA.out _ hb2) | ((with_reducible refine (Hl.out _ hb2).mono ?_); rintro e w2 ⟨rfl, hb2⟩; obtain ⟨A0, A5, A6, A10, B0, B5, B6, B10⟩ := KA.out _ hb2))
      | (go_at_call 24; first | ((with_reducible refine (Hf.out _ hb2).mono ?_); rintro e w2 ⟨rfl, hb2⟩; obtain ⟨A0, A5, A6, A10, B0, B5, B6, B10⟩ := KA.out _ hb2)))
    all_goals go_ret
    all_goals exact ⟨rfl, bl_trans hB.out hb2⟩
  case pos =>
  rw [← e_place] at B3
  replace e_place := Lib.hid e_place
  by_cases e_extended : c.extended = d.extended
  case neg =>
    have hR : sameS c d = false := by simp [sameS, e_cap.out, e_period.out, e_fuel.out, e_quiet.out, e_separate.out, e_place.out, e_extended]
    obtain rfl := hSd.symm.trans hR
    clear hR
    replace hB := Lib.hid hB
    have q_extended : d.extended = !c.extended := by cases h1 : c.extended <;> cases h2 : d.extended <;> simp_all
    rw [q_extended] at B4
    clear q_extended
    clear e_extended
    replace Hs := Lib.hid Hs
    replace Hi := Lib.hid Hi
    replace Hl := Lib.hid Hl
    replace Hf := Lib.hid Hf
    go_wp2_with (first
      | (go_at_call 22; first | ((with_reducible refine (Hs.out _ hb2).mono ?_); rintro e w2 ⟨rfl, hb2⟩; obtain ⟨A0, A5, A6, A10, B0, B5, B6, B10⟩ := KA.out _ hb2))
      | (go_at_call 23; first | ((with_reducible refine (Hi.out _ hb2).mono ?_); rintro e w2 ⟨rfl, hb2⟩; obtain ⟨A0, A5, A6, A10, B0, B5, B6, B10⟩ := KA.out _ hb2) | ((with_reducible refine (Hl.out _ hb2).mono ?_); rintro e w2 ⟨rfl, hb2⟩; obtain ⟨A0, A5, A6, A10, B0, B5, B6, B10⟩ := KA.out _ hb2))
      | (go_at_call 24; first | ((with_reducible refine (Hf.out _ hb2).mono ?_); rintro e w2 ⟨rfl, hb2⟩; obtain ⟨A0, A5, A6, A10, B0, B5, B6, B10⟩ := KA.out _ hb2)))
    all_goals go_ret
    all_goals exact ⟨rfl, bl_trans hB.out hb2⟩
  case pos =>
  rw [← e_extended] at B4
  replace e_extended := Lib.hid e_extended
  by_cases e_sed : c.sed = d.sed
  case neg =>
    have hR : sameS c d = false := by simp [sameS, e_cap.out, e_period.out, e_fuel.out, e_quiet.out, e_separate.out, e_place.out, e_extended.out, e_sed]
    obtain rfl := hSd.symm.trans hR
    clear hR
    replace hB := Lib.hid hB
    rw [decide_eq_false e_sed] at Hs
    replace Hs := Lib.hid Hs
    clear e_sed
    replace Hi := Lib.hid Hi
    replace Hl := Lib.hid Hl
    replace Hf := Lib.hid Hf
    go_wp2_with (first
      | (go_at_call 22; first | ((with_reducible refine (Hs.out _ hb2).mono ?_); rintro e w2 ⟨rfl, hb2⟩; obtain ⟨A0, A5, A6, A10, B0, B5, B6, B10⟩ := KA.out _ hb2))
      | (go_at_call 23; first | ((with_reducible refine (Hi.out _ hb2).mono ?_); rintro e w2 ⟨rfl, hb2⟩; obtain ⟨A0, A5, A6, A10, B0, B5, B6, B10⟩ := KA.out _ hb2) | ((with_reducible refine (Hl.out _ hb2).mono ?_); rintro e w2 ⟨rfl, hb2⟩; obtain ⟨A0, A5, A6, A10, B0, B5, B6, B10⟩ := KA.out _ hb2))
      | (go_at_call 24; first | ((with_reducible refine (Hf.out _ hb2).mono ?_); rintro e w2 ⟨rfl, hb2⟩; obtain ⟨A0, A5, A6, A10, B0, B5, B6, B10⟩ := KA.out _ hb2)))
    all_goals go_ret
    all_goals exact ⟨rfl, bl_trans hB.out hb2⟩
  case pos =>
  rw [decide_eq_true e_sed] at Hs
  replace Hs := Lib.hid Hs
  replace e_sed := Lib.hid e_sed
  by_cases e_inputs : c.inputs = d.inputs
  case neg =>
    have hR : sameS c d = false := by simp [sameS, e_cap.out, e_period.out, e_fuel.out, e_quiet.out, e_separate.out, e_place.out, e_extended.out, e_sed.out, e_inputs]
    obtain rfl := hSd.symm.trans hR
    clear hR
    replace hB := Lib.hid hB
    rw [decide_eq_false e_inputs] at Hi
    replace Hi := Lib.hid Hi
    clear e_inputs
    replace Hl := Lib.hid Hl
    replace Hf := Lib.hid Hf
    go_wp2_with (first
      | (go_at_call 22; first | ((with_reducible refine (Hs.out _ hb2).mono ?_); rintro e w2 ⟨rfl, hb2⟩; obtain ⟨A0, A5, A6, A10, B0, B5, B6, B10⟩ := KA.out _ hb2))
      | (go_at_call 23; first | ((with_reducible refine (Hi.out _ hb2).mono ?_); rintro e w2 ⟨rfl, hb2⟩; obtain ⟨A0, A5, A6, A10, B0, B5, B6, B10⟩ := KA.out _ hb2) | ((with_reducible refine (Hl.out _ hb2).mono ?_); rintro e w2 ⟨rfl, hb2⟩; obtain ⟨A0, A5, A6, A10, B0, B5, B6, B10⟩ := KA.out _ hb2))
      | (go_at_call 24; first | ((with_reducible refine (Hf.out _ hb2).mono ?_); rintro e w2 ⟨rfl, hb2⟩; obtain ⟨A0, A5, A6, A10, B0, B5, B6, B10⟩ := KA.out _ hb2)))
    all_goals go_ret
    all_goals exact ⟨rfl, bl_trans hB.out hb2⟩
  case pos =>
  rw [decide_eq_true e_inputs] at Hi
  replace Hi := Lib.hid Hi
  replace e_inputs := Lib.hid e_inputs
  by_cases e_lines : c.lines = d.lines
  case neg =>
    have hR : sameS c d = false := by simp [sameS, e_cap.out, e_period.out, e_fuel.out, e_quiet.out, e_separate.out, e_place.out, e_extended.out, e_sed.out, e_inputs.out, e_lines]
    obtain rfl := hSd.symm.trans hR
    clear hR
    replace hB := Lib.hid hB
    rw [decide_eq_false e_lines] at Hl
    replace Hl := Lib.hid Hl
    clear e_lines
    replace Hf := Lib.hid Hf
    go_wp2_with (first
      | (go_at_call 22; first | ((with_reducible refine (Hs.out _ hb2).mono ?_); rintro e w2 ⟨rfl, hb2⟩; obtain ⟨A0, A5, A6, A10, B0, B5, B6, B10⟩ := KA.out _ hb2))
      | (go_at_call 23; first | ((with_reducible refine (Hi.out _ hb2).mono ?_); rintro e w2 ⟨rfl, hb2⟩; obtain ⟨A0, A5, A6, A10, B0, B5, B6, B10⟩ := KA.out _ hb2) | ((with_reducible refine (Hl.out _ hb2).mono ?_); rintro e w2 ⟨rfl, hb2⟩; obtain ⟨A0, A5, A6, A10, B0, B5, B6, B10⟩ := KA.out _ hb2))
      | (go_at_call 24; first | ((with_reducible refine (Hf.out _ hb2).mono ?_); rintro e w2 ⟨rfl, hb2⟩; obtain ⟨A0, A5, A6, A10, B0, B5, B6, B10⟩ := KA.out _ hb2)))
    all_goals go_ret
    all_goals exact ⟨rfl, bl_trans hB.out hb2⟩
  case pos =>
  rw [decide_eq_true e_lines] at Hl
  replace Hl := Lib.hid Hl
  replace e_lines := Lib.hid e_lines
  have hR : sameS c d = decide (c.files = d.files) := by simp [sameS, e_cap.out, e_period.out, e_fuel.out, e_quiet.out, e_separate.out, e_place.out, e_extended.out, e_sed.out, e_inputs.out, e_lines.out]
  obtain rfl := hSd.symm.trans hR
  clear hR
  replace hB := Lib.hid hB
  replace Hf := Lib.hid Hf
  go_wp2_with (first
    | (go_at_call 22; first | ((with_reducible refine (Hs.out _ hb2).mono ?_); rintro e w2 ⟨rfl, hb2⟩; obtain ⟨A0, A5, A6, A10, B0, B5, B6, B10⟩ := KA.out _ hb2))
    | (go_at_call 23; first | ((with_reducible refine (Hi.out _ hb2).mono ?_); rintro e w2 ⟨rfl, hb2⟩; obtain ⟨A0, A5, A6, A10, B0, B5, B6, B10⟩ := KA.out _ hb2) | ((with_reducible refine (Hl.out _ hb2).mono ?_); rintro e w2 ⟨rfl, hb2⟩; obtain ⟨A0, A5, A6, A10, B0, B5, B6, B10⟩ := KA.out _ hb2))
    | (go_at_call 24; first | ((with_reducible refine (Hf.out _ hb2).mono ?_); rintro e w2 ⟨rfl, hb2⟩; obtain ⟨A0, A5, A6, A10, B0, B5, B6, B10⟩ := KA.out _ hb2)))
  all_goals go_ret
  all_goals exact ⟨rfl, bl_trans hB.out hb2⟩
end Go.Proofs.YtaginadnaajleaaDoor
