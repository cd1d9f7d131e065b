/-
  The reference's Where and view.Where at any state, of chapter 30.
  Conditions: the table of powers of ten lies as laid ('Pow').
-/
import Derived.Test.YtjfpepinmbbnbaaDoorWh0
import Derived.Deep.RegionHeld3
namespace Go.Proofs.YtjfpepinmbbnbaaDoor
open Go.RowKit
set_option linter.unusedVariables false
set_option linter.unusedSimpArgs false
/-- the elder world lies as it lay; the state's cells -/
def SW (s : StC) (W1 : World) (g : Nat) (w' : World) : Prop := Below W1.heap.size W1 w' ∧ w'.cell? ⟨g, 3, none⟩ = some (.int .i64 s.line) ∧ w'.cell? ⟨g, 15, none⟩ = some (.int .i64 s.phase) ∧ w'.cell? ⟨g, 16, none⟩ = some (.int .i64 s.pc) ∧ w'.cell? ⟨g, 17, none⟩ = some (.int .i64 s.exit) ∧ w'.cell? ⟨g, 18, none⟩ = some (.int .i64 s.stop) ∧ w'.cell? ⟨g, 19, none⟩ = some (.int .i64 s.err)
theorem SW.step {s : StC} {W1 : World} {g : Nat} {w' w2 : World} (hg : g < W1.heap.size) (h : SW s W1 g w') (hb : Below w'.heap.size w' w2) : SW s W1 g w2 := by
  obtain ⟨h0, h1, h2, h3, h4, h5, h6⟩ := h
  have hl : g < w'.heap.size := Nat.lt_of_lt_of_le hg h0.size
  have e : ∀ j, w2.cell? ⟨g, j, none⟩ = w'.cell? ⟨g, j, none⟩ := fun j => hb.cell (p := ⟨g, j, none⟩) hl
  exact ⟨bl_trans h0 hb, (e _).trans h1, (e _).trans h2, (e _).trans h3, (e _).trans h4, (e _).trans h5, (e _).trans h6⟩
theorem SW.new (s : StC) (w : World) : SW s (w.alloc (.cells s.cells.toArray 66)) w.heap.size (w.alloc (.cells s.cells.toArray 66)) := by
  have hz := (Blk.new w 66 s.cells).cell
  exact ⟨Below.refl _ _, hz 3, hz 15, hz 16, hz 17, hz 18, hz 19⟩
set_option maxHeartbeats 4000000 in
set_option maxRecDepth 100000 in
theorem rwhere_any (n : Int) (hn : I64 n) (s : StC) (h : s.W) (w : World) :
    Calls Tryd.prog 36 #[.int .i64 n, .agg s.cells.toArray] w fun e w' => e = .returned (.string (rowS (whAll n s))) ∧ Below w.heap.size w w' := by
  have s1 := SW.new s w
  have hlt : w.heap.size < (w.alloc (.cells s.cells.toArray 66)).heap.size := by simp
  have hb1 : Below w.heap.size w (w.alloc (.cells s.cells.toArray 66)) := bl_alloc (Below.refl _ _) _
  obtain ⟨W1, hW1⟩ : ∃ W1, w.alloc (.cells s.cells.toArray 66) = W1 := ⟨_, rfl⟩
  rw [hW1] at s1 hlt hb1
  have hst := Lib.hid (fun (w' w2 : World) (h : SW s W1 w.heap.size w') (hb : Below w'.heap.size w' w2) => h.step hlt hb)
  have tt := fun (k : Int) (hk : I64 k) w' (h : SW s W1 w.heap.size w') => (num_any30 k hk w').mono (R' := fun e w2 => e = .returned (.string (numW k)) ∧ SW s W1 w.heap.size w2) (fun e w2 he => ⟨he.1, h.step hlt he.2⟩)
  have t0 := Lib.hid (tt n hn)
  have t1 := Lib.hid (tt s.line h.line)
  have t2 := Lib.hid (tt s.pc h.pc)
  have t3 := Lib.hid (tt s.exit h.exit)
  have t4 := Lib.hid (tt s.err h.err)
  have t5 := Lib.hid (tt s.stop h.stop)
  have t6 := Lib.hid (tt s.phase h.phase)
  have z0 := numW_size n hn
  have z1 := numW_size _ h.line
  have z2 := numW_size _ h.pc
  have z3 := numW_size _ h.exit
  have z4 := numW_size _ h.err
  have z5 := numW_size _ h.stop
  have z6 := numW_size _ h.phase
  have hR0 := whL_row n s
  have hR1 := whX_row3 n s
  have hR2 := whE_row3 n s
  unfold whR at hR0 hR1 hR2
  have hA : whAll n s = if s.phase = 3 then (if s.err = 0 then whL n s ++ whX s else whL n s ++ whX s ++ whE s) else whL n s := rfl
  replace hA := Lib.hid hA
  generalize whAll n s = A at *
  have hp6 : numW s.phase = ⟨#[32]⟩ ++ txt s.phase := rfl
  generalize numW n = x0 at *
  generalize numW s.line = x1 at *
  generalize numW s.pc = x2 at *
  generalize numW s.exit = x3 at *
  generalize numW s.err = x4 at *
  generalize numW s.stop = x5 at *
  generalize numW s.phase = x6 at *
  have m1 : ¬ 9223372036854775807 < 4 + x0.size := by omega
  have m2 : ¬ 9223372036854775807 < 4 + x0.size + 5 := by omega
  have m2a : ¬ 9223372036854775802 < 4 + x0.size := by omega
  have m3 : ¬ 9223372036854775807 < 4 + x0.size + 5 + x1.size := by omega
  have m4 : ¬ 9223372036854775807 < 4 + x0.size + 5 + x1.size + 3 := by omega
  have m4a : ¬ 9223372036854775804 < 4 + x0.size + 5 + x1.size := by omega
  have m5 : ¬ 9223372036854775807 < 4 + x0.size + 5 + x1.size + 3 + x2.size := by omega
  have m6 : ¬ 9223372036854775807 < 4 + x0.size + 5 + x1.size + 3 + x2.size + 6 := by omega
  have m6a : ¬ 9223372036854775801 < 4 + x0.size + 5 + x1.size + 3 + x2.size := by omega
  have m7 : ¬ 9223372036854775807 < 4 + x0.size + 5 + x1.size + 3 + x2.size + 6 + 12 := by omega
  have m7a : ¬ 9223372036854775795 < 4 + x0.size + 5 + x1.size + 3 + x2.size + 6 := by omega
  have m8 : ¬ 9223372036854775807 < 4 + x0.size + 5 + x1.size + 3 + x2.size + 6 + 12 + x3.size := by omega
  have m9 : ¬ 9223372036854775807 < 4 + x0.size + 5 + x1.size + 3 + x2.size + 6 + 12 + x3.size + 6 := by omega
  have m9a : ¬ 9223372036854775801 < 4 + x0.size + 5 + x1.size + 3 + x2.size + 6 + 12 + x3.size := by omega
  have m10 : ¬ 9223372036854775807 < 4 + x0.size + 5 + x1.size + 3 + x2.size + 6 + 12 + x3.size + 6 + x4.size := by omega
  have m11 : ¬ 9223372036854775807 < 4 + x0.size + 5 + x1.size + 3 + x2.size + 6 + 12 + x3.size + 6 + x4.size + 3 := by omega
  have m11a : ¬ 9223372036854775804 < 4 + x0.size + 5 + x1.size + 3 + x2.size + 6 + 12 + x3.size + 6 + x4.size := by omega
  have m12 : ¬ 9223372036854775807 < 4 + x0.size + 5 + x1.size + 3 + x2.size + 6 + 12 + x3.size + 6 + x4.size + 3 + x5.size := by omega
  replace hR0 := Lib.hid hR0
  replace hR1 := Lib.hid hR1
  replace hR2 := Lib.hid hR2
  replace hp6 := Lib.hid hp6
  generalize hcz : s.cells.toArray = cz at *
  clear tt h hn
  replace hcz := Lib.hid hcz
  go_enter Tryd.func36, Tryd.ntmps36
  go_wp2_with fail
  have s1' : SW s W1 w.heap.size W1.drew := s1.step hlt (bl_drew (Below.refl _ _))
  have sI : Below W1.heap.size W1 W1.drew ∧ (W1.drew).cell? ⟨w.heap.size, 3, none⟩ = some (.int .i64 s.line) ∧ (W1.drew).cell? ⟨w.heap.size, 15, none⟩ = some (.int .i64 s.phase) ∧ (W1.drew).cell? ⟨w.heap.size, 16, none⟩ = some (.int .i64 s.pc) ∧ (W1.drew).cell? ⟨w.heap.size, 17, none⟩ = some (.int .i64 s.exit) ∧ (W1.drew).cell? ⟨w.heap.size, 18, none⟩ = some (.int .i64 s.stop) ∧ (W1.drew).cell? ⟨w.heap.size, 19, none⟩ = some (.int .i64 s.err) := s1'
  clear s1 hW1
  go_region_held3 (fun w' => Below W1.heap.size W1 w' ∧ (w').cell? ⟨w.heap.size, 3, none⟩ = some (.int .i64 s.line) ∧ (w').cell? ⟨w.heap.size, 15, none⟩ = some (.int .i64 s.phase) ∧ (w').cell? ⟨w.heap.size, 16, none⟩ = some (.int .i64 s.pc) ∧ (w').cell? ⟨w.heap.size, 17, none⟩ = some (.int .i64 s.exit) ∧ (w').cell? ⟨w.heap.size, 18, none⟩ = some (.int .i64 s.stop) ∧ (w').cell? ⟨w.heap.size, 19, none⟩ = some (.int .i64 s.err)) (first | with_reducible exact hI | with_reducible exact sI)
    (first
    | (go_at_call 62; first
      | ((with_reducible refine (t0.out _ s1').mono ?_); rintro e w3 ⟨rfl, hq⟩; have hI : Below W1.heap.size W1 w3 ∧ (w3).cell? ⟨w.heap.size, 3, none⟩ = some (.int .i64 s.line) ∧ (w3).cell? ⟨w.heap.size, 15, none⟩ = some (.int .i64 s.phase) ∧ (w3).cell? ⟨w.heap.size, 16, none⟩ = some (.int .i64 s.pc) ∧ (w3).cell? ⟨w.heap.size, 17, none⟩ = some (.int .i64 s.exit) ∧ (w3).cell? ⟨w.heap.size, 18, none⟩ = some (.int .i64 s.stop) ∧ (w3).cell? ⟨w.heap.size, 19, none⟩ = some (.int .i64 s.err) := hq)
      | ((with_reducible refine (t1.out _ hq).mono ?_); rintro e w4 ⟨rfl, hq⟩; have hI : Below W1.heap.size W1 w4 ∧ (w4).cell? ⟨w.heap.size, 3, none⟩ = some (.int .i64 s.line) ∧ (w4).cell? ⟨w.heap.size, 15, none⟩ = some (.int .i64 s.phase) ∧ (w4).cell? ⟨w.heap.size, 16, none⟩ = some (.int .i64 s.pc) ∧ (w4).cell? ⟨w.heap.size, 17, none⟩ = some (.int .i64 s.exit) ∧ (w4).cell? ⟨w.heap.size, 18, none⟩ = some (.int .i64 s.stop) ∧ (w4).cell? ⟨w.heap.size, 19, none⟩ = some (.int .i64 s.err) := hq)
      | ((with_reducible refine (t2.out _ hq).mono ?_); rintro e w5 ⟨rfl, hq⟩; have hI : Below W1.heap.size W1 w5 ∧ (w5).cell? ⟨w.heap.size, 3, none⟩ = some (.int .i64 s.line) ∧ (w5).cell? ⟨w.heap.size, 15, none⟩ = some (.int .i64 s.phase) ∧ (w5).cell? ⟨w.heap.size, 16, none⟩ = some (.int .i64 s.pc) ∧ (w5).cell? ⟨w.heap.size, 17, none⟩ = some (.int .i64 s.exit) ∧ (w5).cell? ⟨w.heap.size, 18, none⟩ = some (.int .i64 s.stop) ∧ (w5).cell? ⟨w.heap.size, 19, none⟩ = some (.int .i64 s.err) := hq)))
  clear hI sI s1' t0 t1 t2
  have hbb := bl_trans hb1 hq.1
  have hq0 := Lib.hid hq
  obtain ⟨k0, k1, k2, k3, k4, k5, k6⟩ := hq
  by_cases q3 : s.phase = 3
  · have c0 : (s.phase == 0) = false := by rw [q3]; rfl
    have c1 : (s.phase == 1) = false := by rw [q3]; rfl
    have c2 : (s.phase == 2) = false := by rw [q3]; rfl
    have c3 : (s.phase == 3) = true := by rw [q3]; rfl
    have hR1 := hR1.out q3
    have hR2 := hR2.out q3
    have hA := hA.out
    rw [if_pos q3] at hA
    replace hR1 := Lib.hid hR1
    replace hR2 := Lib.hid hR2
    by_cases q4 : s.err = 0
    · rw [if_pos q4] at hA
      replace hA := Lib.hid hA
      rw [q4] at k6
      replace q3 := Lib.hid q3
      replace q4 := Lib.hid q4
      go_wp2_with (go_at_call 62; refine (t3.out _ hq0.out).mono ?_; rintro e w6 ⟨rfl, hq⟩; have hbb := bl_trans hb1 hq.1; obtain ⟨j0, j1, j2, j3, j4, j5, j6⟩ := hq; rw [q4.out] at j6)
      all_goals go_ret
      all_goals exact ⟨by rw [hA.out, hR1.out]; rfl, hbb⟩
    · rw [if_neg q4] at hA
      replace hA := Lib.hid hA
      have b4 : (s.err != 0) = true := by simpa using q4
      replace q3 := Lib.hid q3
      replace q4 := Lib.hid q4
      go_wp2_with (go_at_call 62; refine (t3.out _ hq0.out).mono ?_; rintro e w6 ⟨rfl, hq⟩; have hq6 := Lib.hid hq; have hbb := bl_trans hb1 hq.1; obtain ⟨j0, j1, j2, j3, j4, j5, j6⟩ := hq)
      have s6 : SW s W1 w.heap.size w6.drew := hst.out _ _ hq6.out (bl_drew (Below.refl _ _))
      have sJ : Below W1.heap.size W1 w6.drew ∧ (w6.drew).cell? ⟨w.heap.size, 3, none⟩ = some (.int .i64 s.line) ∧ (w6.drew).cell? ⟨w.heap.size, 15, none⟩ = some (.int .i64 s.phase) ∧ (w6.drew).cell? ⟨w.heap.size, 16, none⟩ = some (.int .i64 s.pc) ∧ (w6.drew).cell? ⟨w.heap.size, 17, none⟩ = some (.int .i64 s.exit) ∧ (w6.drew).cell? ⟨w.heap.size, 18, none⟩ = some (.int .i64 s.stop) ∧ (w6.drew).cell? ⟨w.heap.size, 19, none⟩ = some (.int .i64 s.err) := s6
      clear j0 j1 j2 j3 j4 j5 j6 k0 k1 k2 k3 k4 k5 k6
      go_region_held3 (fun w' => Below W1.heap.size W1 w' ∧ (w').cell? ⟨w.heap.size, 3, none⟩ = some (.int .i64 s.line) ∧ (w').cell? ⟨w.heap.size, 15, none⟩ = some (.int .i64 s.phase) ∧ (w').cell? ⟨w.heap.size, 16, none⟩ = some (.int .i64 s.pc) ∧ (w').cell? ⟨w.heap.size, 17, none⟩ = some (.int .i64 s.exit) ∧ (w').cell? ⟨w.heap.size, 18, none⟩ = some (.int .i64 s.stop) ∧ (w').cell? ⟨w.heap.size, 19, none⟩ = some (.int .i64 s.err)) (first | with_reducible exact hJ | with_reducible exact sJ)
        (first
        | (go_at_call 62; first
          | ((with_reducible refine (t4.out _ s6).mono ?_); rintro e w7 ⟨rfl, hq7⟩; have hJ : Below W1.heap.size W1 w7 ∧ (w7).cell? ⟨w.heap.size, 3, none⟩ = some (.int .i64 s.line) ∧ (w7).cell? ⟨w.heap.size, 15, none⟩ = some (.int .i64 s.phase) ∧ (w7).cell? ⟨w.heap.size, 16, none⟩ = some (.int .i64 s.pc) ∧ (w7).cell? ⟨w.heap.size, 17, none⟩ = some (.int .i64 s.exit) ∧ (w7).cell? ⟨w.heap.size, 18, none⟩ = some (.int .i64 s.stop) ∧ (w7).cell? ⟨w.heap.size, 19, none⟩ = some (.int .i64 s.err) := hq7)
          | ((with_reducible refine (t5.out _ hq7).mono ?_); rintro e w8 ⟨rfl, hq8⟩; have hJ : Below W1.heap.size W1 w8 ∧ (w8).cell? ⟨w.heap.size, 3, none⟩ = some (.int .i64 s.line) ∧ (w8).cell? ⟨w.heap.size, 15, none⟩ = some (.int .i64 s.phase) ∧ (w8).cell? ⟨w.heap.size, 16, none⟩ = some (.int .i64 s.pc) ∧ (w8).cell? ⟨w.heap.size, 17, none⟩ = some (.int .i64 s.exit) ∧ (w8).cell? ⟨w.heap.size, 18, none⟩ = some (.int .i64 s.stop) ∧ (w8).cell? ⟨w.heap.size, 19, none⟩ = some (.int .i64 s.err) := hq8)))
      all_goals go_wp2_with fail
      all_goals go_ret
      all_goals exact ⟨by rw [hA.out, hR2.out]; rfl, bl_trans hb1 hq8.1⟩
  · replace hA := hA.out
    rw [if_neg q3] at hA
    replace hA := Lib.hid hA
    have b3 : (s.phase == 3) = false := by simpa using q3
    by_cases q0 : s.phase = 0
    · have c0 : (s.phase == 0) = true := by rw [q0]; rfl
      replace hR0 := hR0.out
      rw [q0] at hR0
      replace hR0 := Lib.hid hR0
      clear b3 q3 q0
      go_wp2_with fail
      all_goals go_ret
      all_goals exact ⟨by rw [hA.out, hR0.out]; rfl, hbb⟩
    by_cases q1 : s.phase = 1
    · have c0 : (s.phase == 0) = false := by rw [q1]; rfl
      have c1 : (s.phase == 1) = true := by rw [q1]; rfl
      replace hR0 := hR0.out
      rw [q1] at hR0
      replace hR0 := Lib.hid hR0
      clear b3 q3 q0 q1
      go_wp2_with fail
      all_goals go_ret
      all_goals exact ⟨by rw [hA.out, hR0.out]; rfl, hbb⟩
    by_cases q2 : s.phase = 2
    · have c0 : (s.phase == 0) = false := by rw [q2]; rfl
      have c1 : (s.phase == 1) = false := by rw [q2]; rfl
      have c2 : (s.phase == 2) = true := by rw [q2]; rfl
      replace hR0 := hR0.out
      rw [q2] at hR0
      replace hR0 := Lib.hid hR0
      clear b3 q3 q0 q1 q2
      go_wp2_with fail
      all_goals go_ret
      all_goals exact ⟨by rw [hA.out, hR0.out]; rfl, hbb⟩
    have b0 : (s.phase == 0) = false := by simpa using q0
    have b1 : (s.phase == 1) = false := by simpa using q1
    have b2 : (s.phase == 2) = false := by simpa using q2
    have hph : phaseS s.phase = txt s.phase := by unfold phaseS; rw [if_neg q0, if_neg q1, if_neg q2, if_neg q3]
    replace hR0 := hR0.out
    rw [hph, ← hp6.out] at hR0
    replace hR0 := Lib.hid hR0
    replace q0 := Lib.hid q0
    replace q1 := Lib.hid q1
    replace q2 := Lib.hid q2
    replace q3 := Lib.hid q3
    replace hph := Lib.hid hph
    go_wp2_with (go_at_call 62; refine (t6.out _ hq0.out).mono ?_; rintro e w6 ⟨rfl, hq⟩; have hbb := bl_trans hb1 hq.1)
    all_goals go_ret
    all_goals exact ⟨by rw [hA.out, hR0.out]; rfl, hbb⟩
end Go.Proofs.YtjfpepinmbbnbaaDoor
