/-
  Whatever case it is: what is told as its book tells it: the walk; of chapter 32.
  Conditions: as each theorem states them.
-/
import Derived.Test.YtaginadnaajleaaDoorBookG
import Derived.Test.YtaginadnaajleaaDoorRpar
import Derived.Test.YtaginadnaajleaaDoorCmp3
import Derived.Test.YtaginadnaajleaaDoorAwake32
namespace Go.Proofs.YtaginadnaajleaaDoor
open Go.RowKit
set_option linter.unusedVariables false
set_option linter.unusedSimpArgs false
open BM (Cs)
noncomputable def csLoad (a : Addr) : Sem Value := loadVar 29 a
theorem load_cs (a : Addr) : loadVar 29 a = csLoad a := rfl
theorem csLoad_is {w : World} {g : Nat} {l : List Value} (hl : l.length = 11) (h : Blk w g 29 l) : (csLoad ⟨g, 0, none⟩).run Tryd.prog w = .ok (.agg l.toArray) w :=
  run_loadVar_row w g 29 29 l.toArray (0, 0) _ h Tryd.underlying29 rfl (by rw [List.size_toArray, hl]; kernel_rfl)
theorem fits_parsed {s : List UInt8} (hs : s.length ≤ 100000) {c : Cs} {n e : Int} (h : BM.parseS s = (c, n, e)) : Fits c := by
  obtain ⟨hsmall, hshort⟩ := parseS_grown hs h
  exact ⟨hsmall.sed, hsmall.inputs, hsmall.files, hsmall.lines, fun p hp => by have := hshort p hp; omega⟩
attribute [local go_sem ↓] load_cs
set_option maxHeartbeats 8000000 in
set_option maxRecDepth 100000 in
theorem bookSound_list (c : Cs) (sa ia fa la : Option Addr) (sc ic fc lc : Nat) (w : World) (hp : Pow w) (h : CsAt w c (.slice sa c.sed.length sc) (.slice ia c.inputs.length ic) (.slice fa c.files.length fc) (.slice la c.lines.length lc))
    (m : c.sed.length ≤ 9223372036854775807 ∧ c.inputs.length ≤ 9223372036854775807 ∧ c.files.length ≤ 9223372036854775807 ∧ c.lines.length ≤ 9223372036854775807) (hi : I64s c) :
    Calls Tryd.prog 4 #[.agg #[.slice sa c.sed.length sc, .bool c.quiet, .bool c.separate, .bool c.place, .bool c.extended, .slice ia c.inputs.length ic, .slice fa c.files.length fc, .int .i64 c.cap, .int .i64 c.period, .int .i64 c.fuel, .slice la c.lines.length lc]] w fun e w' => e = .returned (.bool true) ∧ Below w.heap.size w w' := by
  obtain ⟨W, hW⟩ : ∃ W, w.alloc (.cells #[.slice sa c.sed.length sc, .bool c.quiet, .bool c.separate, .bool c.place, .bool c.extended, .slice ia c.inputs.length ic, .slice fa c.files.length fc, .int .i64 c.cap, .int .i64 c.period, .int .i64 c.fuel, .slice la c.lines.length lc] 29) = W := ⟨_, rfl⟩
  have hB : Below w.heap.size w W := by rw [← hW]; exact bl_alloc (Below.refl _ _) _
  have hk : Blk W w.heap.size 29 [.slice sa c.sed.length sc, .bool c.quiet, .bool c.separate, .bool c.place, .bool c.extended, .slice ia c.inputs.length ic, .slice fa c.files.length fc, .int .i64 c.cap, .int .i64 c.period, .int .i64 c.fuel, .slice la c.lines.length lc] := by rw [← hW]; exact Blk.new w _ _
  have hL := Lib.hid (fun w' (hb : Below W.heap.size W w') => csLoad_is rfl (hk.below hb))
  have n1 := h.below hB
  have g1 := Lib.hid (great_any c sa ia fa la sc ic fc lc W n1 m.1 m.2.1 m.2.2.1 m.2.2.2)
  have haw := Lib.hid (fun w' (hb : Below W.heap.size W w') => (awake32 w').mono (R' := fun e w2 => e = .returned (.bool true) ∧ Below W.heap.size W w2) (fun e w2 he => ⟨he.1, bl_trans hb he.2⟩))
  have htx := Lib.hid (fun (z : Seen c) w' (hb : Below W.heap.size W w') => btext_any c sa ia fa la sc ic fc lc w' (n1.below hb) (seen_told z hi) (hp.below (bl_trans hB hb)))
  obtain ⟨⟨x, nx, ex⟩, hx⟩ : ∃ R, BM.parseS (BM.textS c) = R := ⟨_, rfl⟩
  have htl := Lib.hid (fun (z : Seen c) => (seen_told z hi).all)
  have hpr := Lib.hid (fun (hl : (BM.textS c).length ≤ 90000) W' => rparse_any (BM.textS c) hl _ hx W')
  have hfx := Lib.hid (fun (hl : (BM.textS c).length ≤ 90000) => fits_parsed (by omega) hx)
  have hrs := Lib.hid (fun (fx : Fits x) (fc' : Fits c) (hs : sameS x c = true) (sa1 ia1 fa1 la1 : Option Addr) (sc1 ic1 fc1 lc1 : Nat) w' (h1 : CsAt w' x (.slice sa1 x.sed.length sc1) (.slice ia1 x.inputs.length ic1) (.slice fa1 x.files.length fc1) (.slice la1 x.lines.length lc1)) (hb : Below W.heap.size W w') =>
    (refsame_any x c sa1 ia1 fa1 la1 sa ia fa la sc1 ic1 fc1 lc1 sc ic fc lc w' h1 (n1.below hb) fx fc').mono (R' := fun e w2 => e = .returned (.bool true) ∧ Below W.heap.size W w2) (fun e w2 he => ⟨by rw [← hs]; exact he.1, bl_trans hb he.2⟩))
  have hb0 : Below W.heap.size W W := Below.refl _ _
  have L1 := hL.out W hb0
  replace hx := Lib.hid hx
  replace hW := Lib.hid hW
  replace hB := Lib.hid hB
  replace hk := Lib.hid hk
  replace n1 := Lib.hid n1
  replace h := Lib.hid h
  replace hp := Lib.hid hp
  clear m
  go_enter Tryd.func4, Tryd.ntmps4
  go_upto_region 1 with fail
  rw [hW.out]
  clear hW
  go_upto_region 3 with (first
    | (go_at_call 10; refine g1.out.mono ?_; rintro e w2 ⟨r1, rfl, hs1, hb2⟩; have L2 := hL.out _ hb2; cases r1)
    | (go_at_call 5; refine (haw.out _ hb2).mono ?_; rintro e w4 ⟨rfl, hb4⟩))
  all_goals (first | (go_ret; exact ⟨rfl, bl_trans hB.out hb4⟩) | skip)
  have z := hs1 (by trivial)
  have hl9 := htl.out z
  have fx := hfx.out hl9
  have fc' := z.fits
  have hrs2 := Lib.hid (hrs.out fx fc')
  have hpr2 := Lib.hid (hpr.out hl9)
  have htx2 := htx.out z w2 hb2
  unfold TextIs at htx2
  rw [hx.out] at htx2
  simp only at htx2
  generalize BM.textS c = T at *
  replace htx2 := Lib.hid htx2
  clear hs1 hl9 fx fc' hrs hpr hfx htl htx g1 z
  go_upto_region 4 with (go_at_call 7; refine htx2.out.mono ?_; rintro e w5 ⟨hb5, ⟨rfl, rfl, hss⟩ | ⟨rfl, hno⟩⟩)
  · replace hb5 := bl_trans hb2 hb5
    have hr3 := Lib.hid (hrs2.out hss)
    have L5 := hL.out _ hb5
    clear hrs2
    go_wp2_with (first
      | (go_at_call 6; refine (hpr2.out _).mono ?_; rintro e w6 ⟨sa1, sc1, ia1, ic1, fa1, fc1, la1, lc1, rfl, hu1, hb6⟩; have hb7 := bl_alloc (bl_trans hb5 hb6) (.cells #[.slice sa1 x.sed.length sc1, .bool x.quiet, .bool x.separate, .bool x.place, .bool x.extended, .slice ia1 x.inputs.length ic1, .slice fa1 x.files.length fc1, .int .i64 x.cap, .int .i64 x.period, .int .i64 x.fuel, .slice la1 x.lines.length lc1] 29); have hu2 := Lib.hid (hu1.below (bl_alloc (Below.refl _ _) (.cells #[.slice sa1 x.sed.length sc1, .bool x.quiet, .bool x.separate, .bool x.place, .bool x.extended, .slice ia1 x.inputs.length ic1, .slice fa1 x.files.length fc1, .int .i64 x.cap, .int .i64 x.period, .int .i64 x.fuel, .slice la1 x.lines.length lc1] 29))); have L6 := hL.out _ hb7; have L7 := csLoad_is (l := [.slice sa1 x.sed.length sc1, .bool x.quiet, .bool x.separate, .bool x.place, .bool x.extended, .slice ia1 x.inputs.length ic1, .slice fa1 x.files.length fc1, .int .i64 x.cap, .int .i64 x.period, .int .i64 x.fuel, .slice la1 x.lines.length lc1]) rfl (Blk.new w6 29 _); clear hu1)
      | (go_at_call 9; refine (hr3.out _ _ _ _ _ _ _ _ _ hu2.out hb7).mono ?_; rintro e w8 ⟨rfl, hb8⟩)
      | (go_at_call 5; refine (haw.out _ hb8).mono ?_; rintro e w9 ⟨rfl, hb9⟩))
    all_goals go_ret
    all_goals exact ⟨rfl, bl_trans hB.out hb9⟩
  · replace hb5 := bl_trans hb2 hb5
    clear hrs2 hpr2 hno
    go_wp2_with (go_at_call 5; refine (haw.out _ hb5).mono ?_; rintro e w9 ⟨rfl, hb9⟩)
    all_goals go_ret
    all_goals exact ⟨rfl, bl_trans hB.out hb9⟩
theorem bookSound_walk (w : World) (hp : Pow w) (cs0 : Array Value) (x0 : _) (rd0 : rCase.ok (Sub.all w) cs0.toList x0) :
    Calls Tryd.prog 4 #[.agg cs0] w fun e w' => e = .returned (.bool true) ∧ Below w.heap.size w w' := by
  obtain ⟨c, sa1, ia1, fa1, la1, sc1, ic1, fc1, lc1, e1, h1, m1, i1, i2, i3⟩ := read_case rd0
  obtain ⟨l1⟩ := cs0
  simp only at e1
  subst e1
  exact bookSound_list c sa1 ia1 fa1 la1 sc1 ic1 fc1 lc1 w hp h1 m1 ⟨i1, i2, i3⟩
end Go.Proofs.YtaginadnaajleaaDoor
