/-
  The case of any book has a book that tells just it: the walk; of chapter 32.
  Conditions: as each theorem states them.
-/
import Derived.Test.YtaginadnaajleaaDoorSnd
import Derived.Test.YtaginadnaajleaaDoorBookH
namespace Go.Proofs.YtaginadnaajleaaDoor
open Go.RowKit
set_option linter.unusedVariables false
set_option linter.unusedSimpArgs false
open BM (Cs)
theorem str_eta (s : ByteArray) : strV s.data.toList = .string s := by
  show Value.string ⟨s.data.toList.toArray⟩ = _
  rw [Array.toArray_toList]
attribute [local go_sem ↓] load_cs
set_option maxHeartbeats 8000000 in
set_option maxRecDepth 100000 in
theorem bookBack_list (t : List UInt8) (hlt : t.length ≤ 9223372036854775807) (w : World) (hp : Pow w) : Calls Tryd.prog 3 #[strV t] w fun e w' => e = .returned (.bool true) ∧ Below w.heap.size w w' := by
  have haw := Lib.hid (fun w' => awake32 w')
  by_cases h1 : 600 < t.length
  · have q1 : decide ((600 : Int) < t.length) = true := by rw [decide_eq_true_eq]; omega
    go_enter Tryd.func3, Tryd.ntmps3
    go_wp2_with (go_at_call 5; refine (haw.out _).mono ?_; rintro e w2 ⟨rfl, hb2⟩)
    all_goals go_ret
    all_goals exact ⟨rfl, hb2⟩
  have q1 : decide ((600 : Int) < t.length) = false := by rw [decide_eq_false_iff_not]; omega
  obtain ⟨⟨c, nx, ex⟩, hx⟩ : ∃ R, BM.parseS t = R := ⟨_, rfl⟩
  have hr1 := Lib.hid (rparse_any t (by omega) _ hx w)
  by_cases hex : ex = 0
  case neg =>
    have q3 : (ex != 0) = true := by simpa using hex
    replace hx := Lib.hid hx
    replace hex := Lib.hid hex
    go_enter Tryd.func3, Tryd.ntmps3
    go_wp2_with (first
      | (go_at_call 6; refine hr1.out.mono ?_; rintro e w2 ⟨sa1, sc1, ia1, ic1, fa1, fc1, la1, lc1, rfl, hu1, hb2⟩; replace hu1 := Lib.hid hu1)
      | (go_at_call 5; refine (haw.out _).mono ?_; rintro e w4 ⟨rfl, hb5⟩))
    all_goals go_ret
    all_goals exact ⟨rfl, bl_trans (bl_alloc hb2 _) hb5⟩
  case pos =>
  subst hex
  obtain ⟨hg, hT⟩ := parsed_good (by omega) hx
  have hpt := BM.parse_text hg (by have := hT.all; have h2 := hT.all; exact Nat.le_trans (text_short (by omega) hx) (by omega))
  have hrT := Lib.hid (fun W => rparse_any (BM.textS c) hT.all _ hpt W)
  have hpT := Lib.hid (fun W => parse_read (BM.textS c) (by have := hT.all; omega) hpt W)
  have fc' : Fits c := fits_parsed (by omega) hx
  have htx := Lib.hid (fun (sa ia fa la : Option Addr) (sc ic fc lc : Nat) (W : World) h (hpw : Pow W) => btext_any c sa ia fa la sc ic fc lc W h hT hpw)
  have hsm := Lib.hid (fun (sa1 ia1 fa1 la1 sa2 ia2 fa2 la2 : Option Addr) (sc1 ic1 fc1 lc1 sc2 ic2 fc2 lc2 : Nat) (W : World) h1 h2 => (refsame_any c c sa1 ia1 fa1 la1 sa2 ia2 fa2 la2 sc1 ic1 fc1 lc1 sc2 ic2 fc2 lc2 W h1 h2 fc' fc').mono (R' := fun e w2 => e = .returned (.bool true) ∧ Below W.heap.size W w2) (fun e w2 he => ⟨by rw [← sameS_self c]; exact he.1, he.2⟩))
  replace hx := Lib.hid hx
  replace hp := Lib.hid hp
  clear hg hT fc'
  replace hpt := Lib.hid hpt
  go_enter Tryd.func3, Tryd.ntmps3
  go_upto_region 6 with (go_at_call 6; refine hr1.out.mono ?_; rintro e w2 ⟨sa1, sc1, ia1, ic1, fa1, fc1, la1, lc1, rfl, hu1, hb2⟩)
  obtain ⟨W1, hW1⟩ : ∃ W1, w2.alloc (.cells #[.slice sa1 c.sed.length sc1, .bool c.quiet, .bool c.separate, .bool c.place, .bool c.extended, .slice ia1 c.inputs.length ic1, .slice fa1 c.files.length fc1, .int .i64 c.cap, .int .i64 c.period, .int .i64 c.fuel, .slice la1 c.lines.length lc1] 29) = W1 := ⟨_, rfl⟩
  have hk1 : Blk W1 w2.heap.size 29 [.slice sa1 c.sed.length sc1, .bool c.quiet, .bool c.separate, .bool c.place, .bool c.extended, .slice ia1 c.inputs.length ic1, .slice fa1 c.files.length fc1, .int .i64 c.cap, .int .i64 c.period, .int .i64 c.fuel, .slice la1 c.lines.length lc1] := by rw [← hW1]; exact Blk.new w2 _ _
  have hB1 : Below w.heap.size w W1 := by rw [← hW1]; exact bl_alloc hb2 _
  have hc1 : CsAt W1 c (.slice sa1 c.sed.length sc1) (.slice ia1 c.inputs.length ic1) (.slice fa1 c.files.length fc1) (.slice la1 c.lines.length lc1) := by rw [← hW1]; exact hu1.below (bl_alloc (Below.refl _ _) _)
  rw [hW1]
  clear hW1 hb2 hu1
  have hL1 := Lib.hid (fun w' (hb : Below W1.heap.size W1 w') => csLoad_is rfl (hk1.below hb))
  have L1 := hL1.out W1 (Below.refl _ _)
  have htx2 := htx.out _ _ _ _ _ _ _ _ W1 hc1 (hp.out.below hB1)
  unfold TextIs at htx2
  rw [hpt.out] at htx2
  simp only [sameS_self] at htx2
  have hcc := Lib.hid (fun w' (hb : Below W1.heap.size W1 w') => hc1.below hb)
  generalize BM.textS c = T at *
  replace htx2 := Lib.hid htx2
  replace hB1 := Lib.hid hB1
  clear htx hk1 hc1 hpt
  generalize w2.heap.size = g1 at *
  go_upto_region 7 with (go_at_call 7; refine htx2.out.mono ?_; rintro e w5 ⟨hb5, ⟨rfl, _, _⟩ | ⟨rfl, hno⟩⟩)
  · have L5 := hL1.out _ hb5
    go_upto_region 9 with (first
      | (go_at_call 6; refine (hrT.out _).mono ?_; rintro e w6 ⟨sa2, sc2, ia2, ic2, fa2, fc2, la2, lc2, rfl, hu2, hb6⟩; have hb7 := Lib.hid (bl_alloc (bl_trans hb5 hb6) (.cells #[.slice sa2 c.sed.length sc2, .bool c.quiet, .bool c.separate, .bool c.place, .bool c.extended, .slice ia2 c.inputs.length ic2, .slice fa2 c.files.length fc2, .int .i64 c.cap, .int .i64 c.period, .int .i64 c.fuel, .slice la2 c.lines.length lc2] 29)); have hk2 := Lib.hid (Blk.new w6 29 [.slice sa2 c.sed.length sc2, .bool c.quiet, .bool c.separate, .bool c.place, .bool c.extended, .slice ia2 c.inputs.length ic2, .slice fa2 c.files.length fc2, .int .i64 c.cap, .int .i64 c.period, .int .i64 c.fuel, .slice la2 c.lines.length lc2]); replace hu2 := Lib.hid (hu2.below (bl_alloc (Below.refl _ _) (.cells #[.slice sa2 c.sed.length sc2, .bool c.quiet, .bool c.separate, .bool c.place, .bool c.extended, .slice ia2 c.inputs.length ic2, .slice fa2 c.files.length fc2, .int .i64 c.cap, .int .i64 c.period, .int .i64 c.fuel, .slice la2 c.lines.length lc2] 29))))
      | (go_at_call 8; refine (hpT.out _).mono ?_; rintro e w8 ⟨sa3, sc3, ia3, ic3, fa3, fc3, la3, lc3, rfl, hu3, hb8⟩; have hb9 := Lib.hid (bl_alloc (bl_trans hb7.out hb8) (.cells #[.slice sa3 c.sed.length sc3, .bool c.quiet, .bool c.separate, .bool c.place, .bool c.extended, .slice ia3 c.inputs.length ic3, .slice fa3 c.files.length fc3, .int .i64 c.cap, .int .i64 c.period, .int .i64 c.fuel, .slice la3 c.lines.length lc3] 29)); have hk3 := Lib.hid (Blk.new w8 29 [.slice sa3 c.sed.length sc3, .bool c.quiet, .bool c.separate, .bool c.place, .bool c.extended, .slice ia3 c.inputs.length ic3, .slice fa3 c.files.length fc3, .int .i64 c.cap, .int .i64 c.period, .int .i64 c.fuel, .slice la3 c.lines.length lc3]); have hk2' := Lib.hid ((hk2.out.below hb8).alloc (.cells #[.slice sa3 c.sed.length sc3, .bool c.quiet, .bool c.separate, .bool c.place, .bool c.extended, .slice ia3 c.inputs.length ic3, .slice fa3 c.files.length fc3, .int .i64 c.cap, .int .i64 c.period, .int .i64 c.fuel, .slice la3 c.lines.length lc3] 29)); have hu2' := Lib.hid ((hu2.out.below hb8).below (bl_alloc (Below.refl _ _) (.cells #[.slice sa3 c.sed.length sc3, .bool c.quiet, .bool c.separate, .bool c.place, .bool c.extended, .slice ia3 c.inputs.length ic3, .slice fa3 c.files.length fc3, .int .i64 c.cap, .int .i64 c.period, .int .i64 c.fuel, .slice la3 c.lines.length lc3] 29))); replace hu3 := Lib.hid (hu3.below (bl_alloc (Below.refl _ _) (.cells #[.slice sa3 c.sed.length sc3, .bool c.quiet, .bool c.separate, .bool c.place, .bool c.extended, .slice ia3 c.inputs.length ic3, .slice fa3 c.files.length fc3, .int .i64 c.cap, .int .i64 c.period, .int .i64 c.fuel, .slice la3 c.lines.length lc3] 29))))
      )
    obtain ⟨W9, hW9⟩ : ∃ W9, w8.alloc (.cells #[.slice sa3 c.sed.length sc3, .bool c.quiet, .bool c.separate, .bool c.place, .bool c.extended, .slice ia3 c.inputs.length ic3, .slice fa3 c.files.length fc3, .int .i64 c.cap, .int .i64 c.period, .int .i64 c.fuel, .slice la3 c.lines.length lc3] 29) = W9 := ⟨_, rfl⟩
    rw [hW9] at hb9 hk3 hk2' hu2' hu3
    rw [hW9]
    clear hW9 hk2 hu2 hb7
    have M2 := Lib.hid (fun w' (hb : Below W9.heap.size W9 w') => csLoad_is rfl (hk2'.out.below hb))
    have M3 := Lib.hid (fun w' (hb : Below W9.heap.size W9 w') => csLoad_is rfl (hk3.out.below hb))
    have M1 := Lib.hid (fun w' (hb : Below W9.heap.size W9 w') => hL1.out w' (bl_trans hb9.out hb))
    have s2 := Lib.hid (fun w' (hb : Below W9.heap.size W9 w') => hsm.out _ _ _ _ _ _ _ _ _ _ _ _ _ _ _ _ w' (hu2'.out.below hb) (hcc.out w' (bl_trans hb9.out hb)))
    have s3 := Lib.hid (fun w' (hb : Below W9.heap.size W9 w') => hsm.out _ _ _ _ _ _ _ _ _ _ _ _ _ _ _ _ w' (hu3.out.below hb) (hcc.out w' (bl_trans hb9.out hb)))
    have z0 := Below.refl W9.heap.size W9
    have a1 := M1.out _ z0
    have a2 := M2.out _ z0
    have a3 := M3.out _ z0
    generalize w6.heap.size = g6 at *
    generalize w8.heap.size = g8 at *
    go_wp2_with (first
      | (go_at_call 9; first
        | ((with_reducible refine (s2.out _ z0).mono ?_); rintro e w10 ⟨rfl, hb10⟩; have y1 := M1.out _ hb10; have y3 := M3.out _ hb10)
        | ((with_reducible refine (s3.out _ hb10).mono ?_); rintro e w11 ⟨rfl, hb11⟩; replace hb11 := bl_trans hb10 hb11))
      | (go_at_call 5; refine (haw.out _).mono ?_; rintro e w12 ⟨rfl, hb12⟩))
    all_goals go_ret
    all_goals exact ⟨rfl, bl_trans hB1.out (bl_trans hb9.out (bl_trans hb11 hb12))⟩
  · first | exact (hno (by simp)).elim | (simp at hno)
theorem bookBack_walk (w : World) (hp : Pow w) (a : ByteArray) (ha : a.size ≤ maxLen) : Calls Tryd.prog 3 #[.string a] w fun e w' => e = .returned (.bool true) ∧ Below w.heap.size w w' := by
  rw [← str_eta a]
  unfold maxLen at ha
  exact bookBack_list _ (by rw [size_list]; omega) w hp
end Go.Proofs.YtaginadnaajleaaDoor
