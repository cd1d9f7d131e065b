/-
  Two cases are the same just if all that they have is: the walk; of chapter 32.
  Conditions: as each theorem states them.
-/
import Derived.Test.YtaginadnaajleaaCmp2
import Derived.Test.YtaginadnaajleaaCmp3
import Derived.Test.YtaginadnaajleaaAwake32
namespace Go.Proofs.Ytaginadnaajleaa
open Go.RowKit
set_option linter.unusedVariables false
set_option linter.unusedSimpArgs false
open BM (Cs)
noncomputable def csLoad (a : Addr) : Sem Value := loadVar 29 a
theorem load_cs (a : Addr) : loadVar 29 a = csLoad a := rfl
theorem csLoad_is {w : World} {g : Nat} {l : List Value} (hl : l.length = 11) (h : Blk w g 29 l) : (csLoad ⟨g, 0, none⟩).run Try.prog w = .ok (.agg l.toArray) w :=
  run_loadVar_row w g 29 29 l.toArray (0, 0) _ h Try.underlying29 rfl (by rw [List.size_toArray, hl]; kernel_rfl)
attribute [local go_sem ↓] load_cs
set_option maxHeartbeats 8000000 in
set_option maxRecDepth 100000 in
theorem bookSame_list (c d : Cs) (sa1 ia1 fa1 la1 sa2 ia2 fa2 la2 : Option Addr) (sc1 ic1 fc1 lc1 sc2 ic2 fc2 lc2 : Nat) (w : World) (h1 : CsAt w c (.slice sa1 c.sed.length sc1) (.slice ia1 c.inputs.length ic1) (.slice fa1 c.files.length fc1) (.slice la1 c.lines.length lc1)) (h2 : CsAt w d (.slice sa2 d.sed.length sc2) (.slice ia2 d.inputs.length ic2) (.slice fa2 d.files.length fc2) (.slice la2 d.lines.length lc2))
    (m1 : c.sed.length ≤ 9223372036854775807 ∧ c.inputs.length ≤ 9223372036854775807 ∧ c.files.length ≤ 9223372036854775807 ∧ c.lines.length ≤ 9223372036854775807) (m2 : d.sed.length ≤ 9223372036854775807 ∧ d.inputs.length ≤ 9223372036854775807 ∧ d.files.length ≤ 9223372036854775807 ∧ d.lines.length ≤ 9223372036854775807) :
    Calls Try.prog 4 #[.agg #[.slice sa1 c.sed.length sc1, .bool c.quiet, .bool c.separate, .bool c.place, .bool c.extended, .slice ia1 c.inputs.length ic1, .slice fa1 c.files.length fc1, .int .i64 c.cap, .int .i64 c.period, .int .i64 c.fuel, .slice la1 c.lines.length lc1], .agg #[.slice sa2 d.sed.length sc2, .bool d.quiet, .bool d.separate, .bool d.place, .bool d.extended, .slice ia2 d.inputs.length ic2, .slice fa2 d.files.length fc2, .int .i64 d.cap, .int .i64 d.period, .int .i64 d.fuel, .slice la2 d.lines.length lc2]] w fun e w' => e = .returned (.bool true) ∧ Below w.heap.size w w' := by
  obtain ⟨W, hW⟩ : ∃ W, (w.alloc (.cells ([.slice sa1 c.sed.length sc1, .bool c.quiet, .bool c.separate, .bool c.place, .bool c.extended, .slice ia1 c.inputs.length ic1, .slice fa1 c.files.length fc1, .int .i64 c.cap, .int .i64 c.period, .int .i64 c.fuel, .slice la1 c.lines.length lc1] : List Value).toArray 29)).alloc (.cells ([.slice sa2 d.sed.length sc2, .bool d.quiet, .bool d.separate, .bool d.place, .bool d.extended, .slice ia2 d.inputs.length ic2, .slice fa2 d.files.length fc2, .int .i64 d.cap, .int .i64 d.period, .int .i64 d.fuel, .slice la2 d.lines.length lc2] : List Value).toArray 29) = W := ⟨_, rfl⟩
  have hB : Below w.heap.size w W := by rw [← hW]; exact bl_alloc (bl_alloc (Below.refl _ _) _) _
  have hk1 := (Blk.new w 29 [.slice sa1 c.sed.length sc1, .bool c.quiet, .bool c.separate, .bool c.place, .bool c.extended, .slice ia1 c.inputs.length ic1, .slice fa1 c.files.length fc1, .int .i64 c.cap, .int .i64 c.period, .int .i64 c.fuel, .slice la1 c.lines.length lc1]).alloc (.cells ([.slice sa2 d.sed.length sc2, .bool d.quiet, .bool d.separate, .bool d.place, .bool d.extended, .slice ia2 d.inputs.length ic2, .slice fa2 d.files.length fc2, .int .i64 d.cap, .int .i64 d.period, .int .i64 d.fuel, .slice la2 d.lines.length lc2] : List Value).toArray 29)
  have hk2 := Blk.new (w.alloc (.cells ([.slice sa1 c.sed.length sc1, .bool c.quiet, .bool c.separate, .bool c.place, .bool c.extended, .slice ia1 c.inputs.length ic1, .slice fa1 c.files.length fc1, .int .i64 c.cap, .int .i64 c.period, .int .i64 c.fuel, .slice la1 c.lines.length lc1] : List Value).toArray 29)) 29 [.slice sa2 d.sed.length sc2, .bool d.quiet, .bool d.separate, .bool d.place, .bool d.extended, .slice ia2 d.inputs.length ic2, .slice fa2 d.files.length fc2, .int .i64 d.cap, .int .i64 d.period, .int .i64 d.fuel, .slice la2 d.lines.length lc2]
  rw [hW] at hk1 hk2
  rw [World.size_alloc] at hk2
  have n1 := h1.below hB
  have n2 := h2.below hB
  clear h1 h2
  have hL : ∀ w', Below W.heap.size W w' → (csLoad ⟨w.heap.size, 0, none⟩).run Try.prog w' = .ok (.agg #[.slice sa1 c.sed.length sc1, .bool c.quiet, .bool c.separate, .bool c.place, .bool c.extended, .slice ia1 c.inputs.length ic1, .slice fa1 c.files.length fc1, .int .i64 c.cap, .int .i64 c.period, .int .i64 c.fuel, .slice la1 c.lines.length lc1]) w' ∧ (csLoad ⟨w.heap.size + 1, 0, none⟩).run Try.prog w' = .ok (.agg #[.slice sa2 d.sed.length sc2, .bool d.quiet, .bool d.separate, .bool d.place, .bool d.extended, .slice ia2 d.inputs.length ic2, .slice fa2 d.files.length fc2, .int .i64 d.cap, .int .i64 d.period, .int .i64 d.fuel, .slice la2 d.lines.length lc2]) w' := fun w' h => ⟨csLoad_is rfl (hk1.below h), csLoad_is rfl (hk2.below h)⟩
  have g1 := Lib.hid (fun w' (hb : Below W.heap.size W w') => great_any c sa1 ia1 fa1 la1 sc1 ic1 fc1 lc1 w' (n1.below hb) m1.1 m1.2.1 m1.2.2.1 m1.2.2.2)
  have g2 := Lib.hid (fun w' (hb : Below W.heap.size W w') => great_any d sa2 ia2 fa2 la2 sc2 ic2 fc2 lc2 w' (n2.below hb) m2.1 m2.2.1 m2.2.2.1 m2.2.2.2)
  have haw := Lib.hid (fun w' (hb : Below W.heap.size W w') => (awake32 w').mono (R' := fun e w2 => e = .returned (.bool true) ∧ Below W.heap.size W w2) (fun e w2 he => ⟨he.1, bl_trans hb he.2⟩))
  obtain ⟨S, hSd⟩ : ∃ S, sameS c d = S := ⟨_, rfl⟩
  have f12 := fun (z1 : Seen c) (z2 : Seen d) w' (hb : Below W.heap.size W w') => (booksame_any c d sa1 ia1 fa1 la1 sa2 ia2 fa2 la2 sc1 ic1 fc1 lc1 sc2 ic2 fc2 lc2 w' (n1.below hb) (n2.below hb) z1 z2).mono (R' := fun e w2 => e = .returned (.bool S) ∧ Below W.heap.size W w2) (fun e w2 he => ⟨by rw [← hSd]; exact he.1, bl_trans hb he.2⟩)
  have f13 := fun (z1 : Seen c) (z2 : Seen d) w' (hb : Below W.heap.size W w') => (refsame_any c d sa1 ia1 fa1 la1 sa2 ia2 fa2 la2 sc1 ic1 fc1 lc1 sc2 ic2 fc2 lc2 w' (n1.below hb) (n2.below hb) z1 z2).mono (R' := fun e w2 => e = .returned (.bool S) ∧ Below W.heap.size W w2) (fun e w2 he => ⟨by rw [← hSd]; exact he.1, bl_trans hb he.2⟩)
  have f11 := fun (z1 : Seen c) w' (hb : Below W.heap.size W w') => (booksame_any c c sa1 ia1 fa1 la1 sa1 ia1 fa1 la1 sc1 ic1 fc1 lc1 sc1 ic1 fc1 lc1 w' (n1.below hb) (n1.below hb) z1 z1).mono (R' := fun e w2 => e = .returned (.bool true) ∧ Below W.heap.size W w2) (fun e w2 he => ⟨by rw [← sameS_self c]; exact he.1, bl_trans hb he.2⟩)
  replace hSd := Lib.hid hSd
  replace f12 := Lib.hid f12
  replace f13 := Lib.hid f13
  replace f11 := Lib.hid f11
  replace hk1 := Lib.hid hk1
  replace hk2 := Lib.hid hk2
  replace n1 := Lib.hid n1
  replace n2 := Lib.hid n2
  have hb0 : Below W.heap.size W W := Below.refl _ _
  obtain ⟨L1, L2⟩ := hL W hb0
  replace hL := Lib.hid hL
  replace hB := Lib.hid hB
  go_enter Try.func4, Try.ntmps4
  go_upto_region 1 with fail
  try rw [hW]
  clear hW m1 m2
  go_upto_region 3 with (first
    | (go_at_call 11; first
      | ((with_reducible refine (g1.out _ hb0).mono ?_); rintro e w2 ⟨r1, rfl, hs1, hb2⟩; obtain ⟨L3, L4⟩ := hL.out _ (bl_trans hb0 hb2); replace hb2 := bl_trans hb0 hb2; cases r1)
      | ((with_reducible refine (g2.out _ hb2).mono ?_); rintro e w3 ⟨r2, rfl, hs2, hb3⟩; obtain ⟨L5, L6⟩ := hL.out _ (bl_trans hb2 hb3); replace hb3 := bl_trans hb2 hb3; cases r2))
    | (go_at_call 5; first | (refine (haw.out _ hb3).mono ?_; rintro e w4 ⟨rfl, hb4⟩) | (refine (haw.out _ hb2).mono ?_; rintro e w4 ⟨rfl, hb4⟩)))
  all_goals (first | (go_ret; exact ⟨rfl, bl_trans hB.out hb4⟩) | skip)
  have z1 := hs1 (by trivial)
  have z2 := hs2 (by trivial)
  have s12 := Lib.hid (f12.out z1 z2)
  have s13 := Lib.hid (f13.out z1 z2)
  have s11 := Lib.hid (f11.out z1)
  have sB : Below W.heap.size W w3.drew := bl_drew hb3
  have sI := And.intro sB (hL.out _ sB)
  clear hs1 hs2 z1 z2 f12 f13 f11 g1 g2 L1 L2 L3 L4 L5 L6 n1 n2 hk1 hk2 hSd
  go_region_held3 (fun w' => Below W.heap.size W w' ∧ (csLoad ⟨w.heap.size, 0, none⟩).run Try.prog w' = .ok (.agg #[.slice sa1 c.sed.length sc1, .bool c.quiet, .bool c.separate, .bool c.place, .bool c.extended, .slice ia1 c.inputs.length ic1, .slice fa1 c.files.length fc1, .int .i64 c.cap, .int .i64 c.period, .int .i64 c.fuel, .slice la1 c.lines.length lc1]) w' ∧ (csLoad ⟨w.heap.size + 1, 0, none⟩).run Try.prog w' = .ok (.agg #[.slice sa2 d.sed.length sc2, .bool d.quiet, .bool d.separate, .bool d.place, .bool d.extended, .slice ia2 d.inputs.length ic2, .slice fa2 d.files.length fc2, .int .i64 d.cap, .int .i64 d.period, .int .i64 d.fuel, .slice la2 d.lines.length lc2]) w') (first | with_reducible exact hI | with_reducible exact sI)
    (first
    | (go_at_call 12; first
      | ((with_reducible refine (s12.out _ sB).mono ?_); rintro e w5 ⟨rfl, hb5⟩; have hI := And.intro hb5 (hL.out _ hb5))
      | ((with_reducible refine (s11.out _ hb6).mono ?_); rintro e w7 ⟨rfl, hb7⟩; have hI := And.intro hb7 (hL.out _ hb7)))
    | (go_at_call 13; (with_reducible refine (s13.out _ hb5).mono ?_); rintro e w6 ⟨rfl, hb6⟩; have hI := And.intro hb6 (hL.out _ hb6))
    | (go_at_call 5; (with_reducible refine (haw.out _ hb7).mono ?_); rintro e w8 ⟨rfl, hb8⟩; have hI := And.intro hb8 (hL.out _ hb8)))
  all_goals go_wp2_with fail
  all_goals go_ret
  all_goals exact ⟨rfl, bl_trans hB.out hb8⟩
theorem bookSame_walk (w : World) (cs0 : Array Value) (x0 : _) (rd0 : rCase.ok (Sub.all w) cs0.toList x0) (cs1 : Array Value) (x1 : _) (rd1 : rCase.ok (Sub.all w) cs1.toList x1) :
    Calls Try.prog 4 #[.agg cs0, .agg cs1] w fun e w' => e = .returned (.bool true) ∧ Below w.heap.size w w' := by
  obtain ⟨c, sa1, ia1, fa1, la1, sc1, ic1, fc1, lc1, e1, h1, m1⟩ := read_case rd0
  obtain ⟨d, sa2, ia2, fa2, la2, sc2, ic2, fc2, lc2, e2, h2, m2⟩ := read_case rd1
  obtain ⟨l1⟩ := cs0
  obtain ⟨l2⟩ := cs1
  simp only at e1 e2
  subst e1 e2
  exact bookSame_list c d sa1 ia1 fa1 la1 sa2 ia2 fa2 la2 sc1 ic1 fc1 lc1 sc2 ic2 fc2 lc2 w h1 h2 m1 m2
end Go.Proofs.Ytaginadnaajleaa
