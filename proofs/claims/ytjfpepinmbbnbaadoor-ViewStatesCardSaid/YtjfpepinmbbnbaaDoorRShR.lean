/-
  The reference's Show at any state (the registers), of chapter 30.
  Conditions: as each theorem states them.
-/
import Derived.Test.YtjfpepinmbbnbaaDoorStAt
import Derived.Test.YtjfpepinmbbnbaaDoorWh0
import Derived.Deep.RegionHeld3
namespace Go.Proofs.YtjfpepinmbbnbaaDoor
open Go.RowKit
set_option linter.unusedVariables false
set_option linter.unusedSimpArgs false
/-- a truth's word, behind a blank -/
def bitR (b : Bool) : ByteArray := ⟨#[32]⟩ ++ bitS b
theorem rbit_any (b : Bool) (w : World) : Calls Tryd.prog 72 #[.bool b] w fun e w' => e = .returned (.string (bitR b)) ∧ w = w' := by
  cases b
  all_goals
    go_enter Tryd.func72, Tryd.ntmps72
    go_wp2_with fail
    go_ret
    exact ⟨rfl, rfl⟩
theorem bitR_le (b : Bool) : (bitR b).size ≤ 22 := by cases b <;> decide
theorem regs_fold (s : StC) : ⟨#[110, 108]⟩ ++ bitR s.nl ++ ⟨#[32, 115, 117, 98, 115, 116]⟩ ++ bitR s.subst ++ ⟨#[32, 108, 97, 115, 116]⟩ ++ numW s.last ++ ⟨#[32, 115, 105, 108, 101, 110, 116]⟩ ++ bitR s.silent ++ ⟨#[32, 113, 117, 105, 116]⟩ ++ bitR s.quit ++ ⟨#[32, 97, 103, 97, 105, 110]⟩ ++ bitR s.again ++ ⟨#[32, 99, 117, 114]⟩ ++ numW s.cur ++ ⟨#[32, 109, 105, 115, 115, 105, 110, 103]⟩ ++ numW s.missing = regsS s := by
  unfold regsS regsL
  rw [rowS_fold]; rfl
set_option maxHeartbeats 4000000 in
set_option maxRecDepth 100000 in
theorem rshow_regs (s : StC) (hs : s.Ok) (w : World) :
    Calls Tryd.prog 37 #[.agg s.cells.toArray, .string ⟨#[114, 101, 103, 115]⟩] w (ShowIs (some [regsS s]) w) := by
  have hz := (Blk.new w 66 s.cells).cell
  have hlt : w.heap.size < (w.alloc (.cells s.cells.toArray 66)).heap.size := by simp
  have hb1 : Below w.heap.size w (w.alloc (.cells s.cells.toArray 66)) := bl_alloc (Below.refl _ _) _
  have s1 : SR s (w.alloc (.cells s.cells.toArray 66)) w.heap.size (w.alloc (.cells s.cells.toArray 66)) := ⟨Below.refl _ _, hz 2, hz 4, hz 5, hz 20, hz 21, hz 22, hz 8, hz 9⟩
  obtain ⟨W1, hW1⟩ : ∃ W1, w.alloc (.cells s.cells.toArray 66) = W1 := ⟨_, rfl⟩
  rw [hW1] at s1 hlt hb1
  clear hz
  have hst := Lib.hid (fun (w' w2 : World) (h : SR s W1 w.heap.size w') (hb : Below w'.heap.size w' w2) => h.step hlt hb)
  have tt := fun (n : Int) (hn : I64 n) w' (h : SR s W1 w.heap.size w') => (num_any30 n hn w').mono (R' := fun e w2 => e = .returned (.string (numW n)) ∧ SR s W1 w.heap.size w2) (fun e w2 he => ⟨he.1, h.step hlt he.2⟩)
  have t1 := Lib.hid (tt s.last hs.last)
  have t2 := Lib.hid (tt s.cur hs.cur)
  have t3 := Lib.hid (tt s.missing hs.missing)
  have z1 := numW_size _ hs.last
  have z2 := numW_size _ hs.cur
  have z3 := numW_size _ hs.missing
  have z4 := bitR_le s.nl
  have z5 := bitR_le s.subst
  have z6 := bitR_le s.silent
  have z7 := bitR_le s.quit
  have z8 := bitR_le s.again
  have hR := regs_fold s
  have b4 := Lib.hid (fun w' => rbit_any s.nl w')
  have b5 := Lib.hid (fun w' => rbit_any s.subst w')
  have b6 := Lib.hid (fun w' => rbit_any s.silent w')
  have b7 := Lib.hid (fun w' => rbit_any s.quit w')
  have b8 := Lib.hid (fun w' => rbit_any s.again w')
  generalize numW s.last = x1 at *
  generalize numW s.cur = x2 at *
  generalize numW s.missing = x3 at *
  generalize regsS s = R at *
  generalize bitR s.nl = x4 at *
  generalize bitR s.subst = x5 at *
  generalize bitR s.silent = x6 at *
  generalize bitR s.quit = x7 at *
  generalize bitR s.again = x8 at *
  have m1 : ¬ 9223372036854775807 < 2 + x4.size := by omega
  have m2 : ¬ 9223372036854775807 < 2 + x4.size + 6 := by omega
  have m2a : ¬ 9223372036854775801 < 2 + x4.size := by omega
  have m3 : ¬ 9223372036854775807 < 2 + x4.size + 6 + x5.size := by omega
  have m4 : ¬ 9223372036854775807 < 2 + x4.size + 6 + x5.size + 5 := by omega
  have m4a : ¬ 9223372036854775802 < 2 + x4.size + 6 + x5.size := by omega
  have m5 : ¬ 9223372036854775807 < 2 + x4.size + 6 + x5.size + 5 + x1.size := by omega
  have m6 : ¬ 9223372036854775807 < 2 + x4.size + 6 + x5.size + 5 + x1.size + 7 := by omega
  have m6a : ¬ 9223372036854775800 < 2 + x4.size + 6 + x5.size + 5 + x1.size := by omega
  have m7 : ¬ 9223372036854775807 < 2 + x4.size + 6 + x5.size + 5 + x1.size + 7 + x6.size := by omega
  have m8 : ¬ 9223372036854775807 < 2 + x4.size + 6 + x5.size + 5 + x1.size + 7 + x6.size + 5 := by omega
  have m8a : ¬ 9223372036854775802 < 2 + x4.size + 6 + x5.size + 5 + x1.size + 7 + x6.size := by omega
  have m9 : ¬ 9223372036854775807 < 2 + x4.size + 6 + x5.size + 5 + x1.size + 7 + x6.size + 5 + x7.size := by omega
  have m10 : ¬ 9223372036854775807 < 2 + x4.size + 6 + x5.size + 5 + x1.size + 7 + x6.size + 5 + x7.size + 6 := by omega
  have m10a : ¬ 9223372036854775801 < 2 + x4.size + 6 + x5.size + 5 + x1.size + 7 + x6.size + 5 + x7.size := by omega
  have m11 : ¬ 9223372036854775807 < 2 + x4.size + 6 + x5.size + 5 + x1.size + 7 + x6.size + 5 + x7.size + 6 + x8.size := by omega
  have m12 : ¬ 9223372036854775807 < 2 + x4.size + 6 + x5.size + 5 + x1.size + 7 + x6.size + 5 + x7.size + 6 + x8.size + 4 := by omega
  have m12a : ¬ 9223372036854775803 < 2 + x4.size + 6 + x5.size + 5 + x1.size + 7 + x6.size + 5 + x7.size + 6 + x8.size := by omega
  have m13 : ¬ 9223372036854775807 < 2 + x4.size + 6 + x5.size + 5 + x1.size + 7 + x6.size + 5 + x7.size + 6 + x8.size + 4 + x2.size := by omega
  have m14 : ¬ 9223372036854775807 < 2 + x4.size + 6 + x5.size + 5 + x1.size + 7 + x6.size + 5 + x7.size + 6 + x8.size + 4 + x2.size + 8 := by omega
  have m14a : ¬ 9223372036854775799 < 2 + x4.size + 6 + x5.size + 5 + x1.size + 7 + x6.size + 5 + x7.size + 6 + x8.size + 4 + x2.size := by omega
  have m15 : ¬ 9223372036854775807 < 2 + x4.size + 6 + x5.size + 5 + x1.size + 7 + x6.size + 5 + x7.size + 6 + x8.size + 4 + x2.size + 8 + x3.size := by omega
  replace hR := Lib.hid hR
  clear tt
  generalize s.cells.toArray = cs at *
  go_enter Tryd.func37, Tryd.ntmps37
  go_wp2_with fail
  have s1' : SR s W1 w.heap.size W1.drew := s1.step hlt (bl_drew (Below.refl _ _))
  have sI : Below W1.heap.size W1 W1.drew ∧ (W1.drew).cell? ⟨w.heap.size, 2, none⟩ = some (.bool s.nl) ∧ (W1.drew).cell? ⟨w.heap.size, 4, none⟩ = some (.bool s.subst) ∧ (W1.drew).cell? ⟨w.heap.size, 5, none⟩ = some (.int .i64 s.last) ∧ (W1.drew).cell? ⟨w.heap.size, 20, none⟩ = some (.bool s.silent) ∧ (W1.drew).cell? ⟨w.heap.size, 21, none⟩ = some (.bool s.quit) ∧ (W1.drew).cell? ⟨w.heap.size, 22, none⟩ = some (.bool s.again) ∧ (W1.drew).cell? ⟨w.heap.size, 8, none⟩ = some (.int .i64 s.cur) ∧ (W1.drew).cell? ⟨w.heap.size, 9, none⟩ = some (.int .i64 s.missing) := s1'
  clear s1 hW1 hs
  go_region_held3 (fun w' => Below W1.heap.size W1 w' ∧ (w').cell? ⟨w.heap.size, 2, none⟩ = some (.bool s.nl) ∧ (w').cell? ⟨w.heap.size, 4, none⟩ = some (.bool s.subst) ∧ (w').cell? ⟨w.heap.size, 5, none⟩ = some (.int .i64 s.last) ∧ (w').cell? ⟨w.heap.size, 20, none⟩ = some (.bool s.silent) ∧ (w').cell? ⟨w.heap.size, 21, none⟩ = some (.bool s.quit) ∧ (w').cell? ⟨w.heap.size, 22, none⟩ = some (.bool s.again) ∧ (w').cell? ⟨w.heap.size, 8, none⟩ = some (.int .i64 s.cur) ∧ (w').cell? ⟨w.heap.size, 9, none⟩ = some (.int .i64 s.missing)) (first | with_reducible exact hI | with_reducible exact sI)
    (first
    | (go_at_call 72; first | ((with_reducible refine (b4.out _).mono ?_); rintro e w2 ⟨rfl, rfl⟩) | ((with_reducible refine (b5.out _).mono ?_); rintro e w2 ⟨rfl, rfl⟩) | ((with_reducible refine (b6.out _).mono ?_); rintro e w2 ⟨rfl, rfl⟩) | ((with_reducible refine (b7.out _).mono ?_); rintro e w2 ⟨rfl, rfl⟩) | ((with_reducible refine (b8.out _).mono ?_); rintro e w2 ⟨rfl, rfl⟩))
    | (go_at_call 62; first
      | ((with_reducible refine (t1.out _ s1').mono ?_); rintro e w3 ⟨rfl, hq⟩; have hI : Below W1.heap.size W1 w3 ∧ (w3).cell? ⟨w.heap.size, 2, none⟩ = some (.bool s.nl) ∧ (w3).cell? ⟨w.heap.size, 4, none⟩ = some (.bool s.subst) ∧ (w3).cell? ⟨w.heap.size, 5, none⟩ = some (.int .i64 s.last) ∧ (w3).cell? ⟨w.heap.size, 20, none⟩ = some (.bool s.silent) ∧ (w3).cell? ⟨w.heap.size, 21, none⟩ = some (.bool s.quit) ∧ (w3).cell? ⟨w.heap.size, 22, none⟩ = some (.bool s.again) ∧ (w3).cell? ⟨w.heap.size, 8, none⟩ = some (.int .i64 s.cur) ∧ (w3).cell? ⟨w.heap.size, 9, none⟩ = some (.int .i64 s.missing) := hq)
      | ((with_reducible refine (t2.out _ hq).mono ?_); rintro e w4 ⟨rfl, hq⟩; have hI : Below W1.heap.size W1 w4 ∧ (w4).cell? ⟨w.heap.size, 2, none⟩ = some (.bool s.nl) ∧ (w4).cell? ⟨w.heap.size, 4, none⟩ = some (.bool s.subst) ∧ (w4).cell? ⟨w.heap.size, 5, none⟩ = some (.int .i64 s.last) ∧ (w4).cell? ⟨w.heap.size, 20, none⟩ = some (.bool s.silent) ∧ (w4).cell? ⟨w.heap.size, 21, none⟩ = some (.bool s.quit) ∧ (w4).cell? ⟨w.heap.size, 22, none⟩ = some (.bool s.again) ∧ (w4).cell? ⟨w.heap.size, 8, none⟩ = some (.int .i64 s.cur) ∧ (w4).cell? ⟨w.heap.size, 9, none⟩ = some (.int .i64 s.missing) := hq)
      | ((with_reducible refine (t3.out _ hq).mono ?_); rintro e w5 ⟨rfl, hq⟩; have hI : Below W1.heap.size W1 w5 ∧ (w5).cell? ⟨w.heap.size, 2, none⟩ = some (.bool s.nl) ∧ (w5).cell? ⟨w.heap.size, 4, none⟩ = some (.bool s.subst) ∧ (w5).cell? ⟨w.heap.size, 5, none⟩ = some (.int .i64 s.last) ∧ (w5).cell? ⟨w.heap.size, 20, none⟩ = some (.bool s.silent) ∧ (w5).cell? ⟨w.heap.size, 21, none⟩ = some (.bool s.quit) ∧ (w5).cell? ⟨w.heap.size, 22, none⟩ = some (.bool s.again) ∧ (w5).cell? ⟨w.heap.size, 8, none⟩ = some (.int .i64 s.cur) ∧ (w5).cell? ⟨w.heap.size, 9, none⟩ = some (.int .i64 s.missing) := hq)))
  all_goals go_wp2_with fail
  all_goals go_ret2
  all_goals rw [← hR.out]
  all_goals exact ⟨_, rfl, StrsAt.one ((Blk.new w5 _ [.string _]).cell 0) (by simp), bl_alloc (bl_trans hb1 hq.1) _⟩
end Go.Proofs.YtjfpepinmbbnbaaDoor
