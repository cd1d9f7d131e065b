/-
  view.Where at any state, of chapter 30.
  Conditions: the table of powers of ten lies as laid ('Pow').
-/
import Derived.Test.YtjfpepinmbbnbaaDoorWh1
import Derived.Deep.AppendLies
namespace Go.Proofs.YtjfpepinmbbnbaaDoor
open Go.RowKit
set_option linter.unusedVariables false
set_option linter.unusedSimpArgs false
theorem cells_new (w : World) (g : Nat) (hg : g = w.heap.size) (e : TypeId) (l : List Value) : ∀ j u, l[j]? = some u → (w.alloc (.cells l.toArray e)).cell? ((⟨g, 0, none⟩ : Addr).add j) = some u := fun j u h => by
  subst hg
  have e1 : (⟨w.heap.size, 0, none⟩ : Addr).add j = ⟨w.heap.size, j, none⟩ := by unfold Addr.add; by_cases hj : j = 0 <;> simp [hj]
  rw [e1]
  exact ((Blk.new w e l).cell j).trans h
set_option maxHeartbeats 4000000 in
set_option maxRecDepth 100000 in
theorem where_any (n : Int) (hn : I64 n) (s : StC) (h : s.W) (w : World) (hp : Pow w) :
    Calls Tryd.prog 35 #[.int .i64 n, .agg s.cells.toArray] w fun e w' => e = .returned (.string (rowS (whAll n s))) ∧ Below w.heap.size w w' := by
  obtain ⟨i0, hi, hz0, hz1, hz2⟩ := info_parts info9_
  have s1 := SW.new s w
  have hlt : w.heap.size < (w.alloc (.cells s.cells.toArray 66)).heap.size := by simp
  have hb1 : Below w.heap.size w (w.alloc (.cells s.cells.toArray 66)) := bl_alloc (Below.refl _ _) _
  obtain ⟨W1, hW1⟩ : ∃ W1, w.alloc (.cells s.cells.toArray 66) = W1 := ⟨_, rfl⟩
  rw [hW1] at s1 hlt hb1
  have hst := Lib.hid (fun (w' w2 : World) (h : SW s W1 w.heap.size w') (hb : Below w'.heap.size w' w2) => h.step hlt hb)
  have hS := Lib.hid (fun (w' : World) (hb : Below W1.heap.size W1 w') => s1.step hlt hb)
  have tt := fun (k : Int) (hk : I64 k) w' (h : SW s W1 w.heap.size w') => (text_any k hk w' (hp.below (bl_trans hb1 h.1))).mono (R' := fun e w2 => e = .returned (.string (txt k)) ∧ SW s W1 w.heap.size w2 ∧ Below w'.heap.size w' w2) (fun e w2 he => ⟨he.1, h.step hlt he.2, he.2⟩)
  have t0 := Lib.hid (tt n hn)
  have t1 := Lib.hid (tt s.line h.line)
  have t2 := Lib.hid (tt s.pc h.pc)
  have t3 := Lib.hid (tt s.exit h.exit)
  have t4 := Lib.hid (tt s.err h.err)
  have t5 := Lib.hid (tt s.stop h.stop)
  have tp := Lib.hid (fun w' (hS : SW s W1 w.heap.size w') => (phase_any s.phase h.phase w' (hp.below (bl_trans hb1 hS.1))).mono (R' := fun e w2 => e = .returned (.string (phaseS s.phase)) ∧ SW s W1 w.heap.size w2) (fun e w2 he => ⟨he.1, hS.step hlt he.2⟩))
  have hrow8 := Lib.hid (fun (W : World) (g : Nat) (hg : g = W.heap.size) => ((row_any (whL n s) g 8 (W.alloc (.cells ((whL n s).map Value.string).toArray 9)) (strRow_new W g hg 9 (whL n s)) (by subst hg; simp) (by simp [whL]) (by simp [whL]) (wh_le n s hn h _ (.inl rfl))).mono (R' := fun e w' => e = .returned (.string (rowS (whL n s))) ∧ Below W.heap.size W w') (fun e w' h => ⟨h.1, bl_trans (bl_alloc (Below.refl _ _) _) h.2⟩) : Calls Tryd.prog 61 #[.slice (some ⟨g, 0, none⟩) 8 8] (W.alloc (.cells #[.string ⟨#[115, 116, 101, 112]⟩, .string (txt n), .string ⟨#[108, 105, 110, 101]⟩, .string (txt s.line), .string ⟨#[112, 99]⟩, .string (txt s.pc), .string ⟨#[112, 104, 97, 115, 101]⟩, .string (phaseS s.phase)] 9)) fun e w' => e = .returned (.string (rowS (whL n s))) ∧ Below W.heap.size W w'))
  have hl10 := wh_le n s hn h _ (.inr (.inl rfl))
  have hl14 := wh_le n s hn h _ (.inr (.inr rfl))
  have hA : whAll n s = if s.phase = 3 then (if s.err = 0 then whL n s ++ whX s else whL n s ++ whX s ++ whE s) else whL n s := rfl
  generalize whAll n s = A at *
  replace hA := Lib.hid hA
  replace hl10 := Lib.hid hl10
  replace hl14 := Lib.hid hl14
  generalize hcz : s.cells.toArray = cz at *
  clear tt h hn hp
  replace hcz := Lib.hid hcz
  go_enter Tryd.func35, Tryd.ntmps35
  go_wp2_with fail
  have s1' : SW s W1 w.heap.size W1.drew := s1.step hlt (bl_drew (Below.refl _ _))
  have sI : Below W1.heap.size W1 W1.drew ∧ (W1.drew).cell? ⟨w.heap.size, 3, none⟩ = some (.int .i64 s.line) ∧ (W1.drew).cell? ⟨w.heap.size, 15, none⟩ = some (.int .i64 s.phase) ∧ (W1.drew).cell? ⟨w.heap.size, 16, none⟩ = some (.int .i64 s.pc) ∧ (W1.drew).cell? ⟨w.heap.size, 17, none⟩ = some (.int .i64 s.exit) ∧ (W1.drew).cell? ⟨w.heap.size, 18, none⟩ = some (.int .i64 s.stop) ∧ (W1.drew).cell? ⟨w.heap.size, 19, none⟩ = some (.int .i64 s.err) := s1'
  clear s1 hW1
  go_region_held3 (fun w' => Below W1.heap.size W1 w' ∧ (w').cell? ⟨w.heap.size, 3, none⟩ = some (.int .i64 s.line) ∧ (w').cell? ⟨w.heap.size, 15, none⟩ = some (.int .i64 s.phase) ∧ (w').cell? ⟨w.heap.size, 16, none⟩ = some (.int .i64 s.pc) ∧ (w').cell? ⟨w.heap.size, 17, none⟩ = some (.int .i64 s.exit) ∧ (w').cell? ⟨w.heap.size, 18, none⟩ = some (.int .i64 s.stop) ∧ (w').cell? ⟨w.heap.size, 19, none⟩ = some (.int .i64 s.err)) (first | with_reducible exact hI | with_reducible exact sI | exact hst.out _ _ hq (bl_alloc (Below.refl _ _) _))
    (first
    | (go_at_call 16; first
      | ((with_reducible refine (t0.out _ s1').mono ?_); rintro e w3 ⟨rfl, hq, _⟩; have hI : Below W1.heap.size W1 w3 ∧ (w3).cell? ⟨w.heap.size, 3, none⟩ = some (.int .i64 s.line) ∧ (w3).cell? ⟨w.heap.size, 15, none⟩ = some (.int .i64 s.phase) ∧ (w3).cell? ⟨w.heap.size, 16, none⟩ = some (.int .i64 s.pc) ∧ (w3).cell? ⟨w.heap.size, 17, none⟩ = some (.int .i64 s.exit) ∧ (w3).cell? ⟨w.heap.size, 18, none⟩ = some (.int .i64 s.stop) ∧ (w3).cell? ⟨w.heap.size, 19, none⟩ = some (.int .i64 s.err) := hq)
      | ((with_reducible refine (t1.out _ hq).mono ?_); rintro e w4 ⟨rfl, hq, _⟩; have hI : Below W1.heap.size W1 w4 ∧ (w4).cell? ⟨w.heap.size, 3, none⟩ = some (.int .i64 s.line) ∧ (w4).cell? ⟨w.heap.size, 15, none⟩ = some (.int .i64 s.phase) ∧ (w4).cell? ⟨w.heap.size, 16, none⟩ = some (.int .i64 s.pc) ∧ (w4).cell? ⟨w.heap.size, 17, none⟩ = some (.int .i64 s.exit) ∧ (w4).cell? ⟨w.heap.size, 18, none⟩ = some (.int .i64 s.stop) ∧ (w4).cell? ⟨w.heap.size, 19, none⟩ = some (.int .i64 s.err) := hq)
      | ((with_reducible refine (t2.out _ hq).mono ?_); rintro e w5 ⟨rfl, hq, _⟩; have hI : Below W1.heap.size W1 w5 ∧ (w5).cell? ⟨w.heap.size, 3, none⟩ = some (.int .i64 s.line) ∧ (w5).cell? ⟨w.heap.size, 15, none⟩ = some (.int .i64 s.phase) ∧ (w5).cell? ⟨w.heap.size, 16, none⟩ = some (.int .i64 s.pc) ∧ (w5).cell? ⟨w.heap.size, 17, none⟩ = some (.int .i64 s.exit) ∧ (w5).cell? ⟨w.heap.size, 18, none⟩ = some (.int .i64 s.stop) ∧ (w5).cell? ⟨w.heap.size, 19, none⟩ = some (.int .i64 s.err) := hq))
    | (go_at_call 70; (with_reducible refine (tp.out _ hq).mono ?_); rintro e w6 ⟨rfl, hq⟩; have hI : Below W1.heap.size W1 w6 ∧ (w6).cell? ⟨w.heap.size, 3, none⟩ = some (.int .i64 s.line) ∧ (w6).cell? ⟨w.heap.size, 15, none⟩ = some (.int .i64 s.phase) ∧ (w6).cell? ⟨w.heap.size, 16, none⟩ = some (.int .i64 s.pc) ∧ (w6).cell? ⟨w.heap.size, 17, none⟩ = some (.int .i64 s.exit) ∧ (w6).cell? ⟨w.heap.size, 18, none⟩ = some (.int .i64 s.stop) ∧ (w6).cell? ⟨w.heap.size, 19, none⟩ = some (.int .i64 s.err) := hq))
  have hB6 : Below W1.heap.size W1 (w6.alloc (.cells #[.string ⟨#[115, 116, 101, 112]⟩, .string (txt n), .string ⟨#[108, 105, 110, 101]⟩, .string (txt s.line), .string ⟨#[112, 99]⟩, .string (txt s.pc), .string ⟨#[112, 104, 97, 115, 101]⟩, .string (phaseS s.phase)] 9)) := bl_alloc hq.1 _
  have hown8 := Lib.hid (World.ownsRow_lit (base := W1.heap.size) (e := 9) (size := 1) w6 #[.string ⟨#[115, 116, 101, 112]⟩, .string (txt n), .string ⟨#[108, 105, 110, 101]⟩, .string (txt s.line), .string ⟨#[112, 99]⟩, .string (txt s.pc), .string ⟨#[112, 104, 97, 115, 101]⟩, .string (phaseS s.phase)] 8 hq.1.size (by decide) rfl)
  clear hI sI s1' t0 t1 t2 tp
  have s6 := hS.out _ hB6
  have s6' := Lib.hid s6
  obtain ⟨_, _, j2, j3, j4, j5, j6⟩ := s6
  have hz6 := hq.1.size
  have hq6 := Lib.hid hq
  clear hq
  by_cases q3 : s.phase = 3
  · have p3 : (s.phase == 3) = true := by rw [q3]; rfl
    have hA := hA.out
    rw [if_pos q3] at hA
    replace q3 := Lib.hid q3
    by_cases q4 : s.err = 0
    · rw [if_pos q4] at hA
      replace hA := Lib.hid hA
      have p4 : (s.err != 0) = false := by rw [q4]; rfl
      replace q4 := Lib.hid q4
      go_wp2_with (first
        | (go_at_call 16; refine (t3.out _ s6'.out).mono ?_; rintro e w7 ⟨rfl, hq7, hb7⟩; have hown7 := own_blw hown8.out hb7; have hz7 := hq7.1.size)
        | (at_builtin; refine wpList_append_own _ rfl (.tmp 22) (.tmp 26) 68 rfl W1.heap.size 9 i0 (.string ⟨#[]⟩) 1 16 Tryd.underlying68 hi hz0 hz1 hz2 rfl (by decide) _ _ _ rfl (hown7.alloc _) ⟨w7.heap.size, 0, none⟩ 2 2 _ rfl rfl (cells_two_new _ _ _ _) (by intro u hu; simp at hu; rcases hu with rfl | rfl <;> rfl) (by decide) (by decide) (by simp; omega) ?_; intro v8 w8 hown9 hgrow8 _; have hB8 := (hq7.1.alloc hz7 _).grown hgrow8 (by simp; omega) (fun j hj => (hown7.lt j hj).1); obtain ⟨g, cap, rfl, hcap, hg, hr⟩ := strs_row (ss := whL n s ++ whX s) hown9 (by omega); replace hr := Lib.hid hr; obtain ⟨_, _, y2, y3, y4, y5, y6⟩ := hS.out _ hB8)
        | (go_at_call 61; refine (row_any (whL n s ++ whX s) g cap _ hr.out hg (by simpa [whL, whX] using hcap) (by simp [whL, whX]) hl10.out).mono ?_; rintro e w9 ⟨rfl, hb9⟩))
      all_goals go_ret
      all_goals exact ⟨by rw [hA.out]; rfl, bl_trans hb1 (bl_trans hB8 hb9)⟩
    · rw [if_neg q4] at hA
      replace hA := Lib.hid hA
      have p4 : (s.err != 0) = true := by simpa using q4
      replace q4 := Lib.hid q4
      go_wp2_with (first
        | (go_at_call 16; refine (t3.out _ s6'.out).mono ?_; rintro e w7 ⟨rfl, hq7, hb7⟩; have hown7 := own_blw hown8.out hb7; have hz7 := hq7.1.size)
        | (at_builtin; refine wpList_append_own _ rfl (.tmp 22) (.tmp 26) 68 rfl W1.heap.size 9 i0 (.string ⟨#[]⟩) 1 16 Tryd.underlying68 hi hz0 hz1 hz2 rfl (by decide) _ _ _ rfl (hown7.alloc _) ⟨w7.heap.size, 0, none⟩ 2 2 _ rfl rfl (cells_two_new _ _ _ _) (by intro u hu; simp at hu; rcases hu with rfl | rfl <;> rfl) (by decide) (by decide) (by simp; omega) ?_; intro v8 w8 hown9 hgrow8 _; have hB8 := (hq7.1.alloc hz7 _).grown hgrow8 (by simp; omega) (fun j hj => (hown7.lt j hj).1); obtain ⟨g, cap, rfl, hcap, hg, hr⟩ := strs_row (ss := whL n s ++ whX s) hown9 (by omega); obtain ⟨_, _, y2, y3, y4, y5, y6⟩ := hS.out _ hB8))
      have s8 : SW s W1 w.heap.size w8.drew := hS.out _ (bl_drew hB8)
      have sJ : Below W1.heap.size W1 w8.drew ∧ (w8.drew).cell? ⟨w.heap.size, 3, none⟩ = some (.int .i64 s.line) ∧ (w8.drew).cell? ⟨w.heap.size, 15, none⟩ = some (.int .i64 s.phase) ∧ (w8.drew).cell? ⟨w.heap.size, 16, none⟩ = some (.int .i64 s.pc) ∧ (w8.drew).cell? ⟨w.heap.size, 17, none⟩ = some (.int .i64 s.exit) ∧ (w8.drew).cell? ⟨w.heap.size, 18, none⟩ = some (.int .i64 s.stop) ∧ (w8.drew).cell? ⟨w.heap.size, 19, none⟩ = some (.int .i64 s.err) := s8
      have hown9d : w8.drew.ownsRow W1.heap.size 9 1 (.slice (some ⟨g, 0, none⟩) 10 cap) 10 ((whL n s ++ whX s).map Value.string) := hown9
      replace hown9d := Lib.hid hown9d
      clear hown9 hgrow8 hown7 hb7 y2 y3 y4 y5 y6 j2 j3 j4 j5 j6 hr hcap hq7
      go_region_held3 (fun w' => Below W1.heap.size W1 w' ∧ (w').cell? ⟨w.heap.size, 3, none⟩ = some (.int .i64 s.line) ∧ (w').cell? ⟨w.heap.size, 15, none⟩ = some (.int .i64 s.phase) ∧ (w').cell? ⟨w.heap.size, 16, none⟩ = some (.int .i64 s.pc) ∧ (w').cell? ⟨w.heap.size, 17, none⟩ = some (.int .i64 s.exit) ∧ (w').cell? ⟨w.heap.size, 18, none⟩ = some (.int .i64 s.stop) ∧ (w').cell? ⟨w.heap.size, 19, none⟩ = some (.int .i64 s.err)) (first | with_reducible exact hJ | with_reducible exact sJ | exact hst.out _ _ hq10 (bl_alloc (Below.refl _ _) _))
        (first
        | (go_at_call 16; first
          | ((with_reducible refine (t4.out _ s8).mono ?_); rintro e w9 ⟨rfl, hq9, hb9⟩; have hJ : Below W1.heap.size W1 w9 ∧ (w9).cell? ⟨w.heap.size, 3, none⟩ = some (.int .i64 s.line) ∧ (w9).cell? ⟨w.heap.size, 15, none⟩ = some (.int .i64 s.phase) ∧ (w9).cell? ⟨w.heap.size, 16, none⟩ = some (.int .i64 s.pc) ∧ (w9).cell? ⟨w.heap.size, 17, none⟩ = some (.int .i64 s.exit) ∧ (w9).cell? ⟨w.heap.size, 18, none⟩ = some (.int .i64 s.stop) ∧ (w9).cell? ⟨w.heap.size, 19, none⟩ = some (.int .i64 s.err) := hq9; have hown9 := Lib.hid (own_blw hown9d.out hb9))
          | ((with_reducible refine (t5.out _ hq9).mono ?_); rintro e w10 ⟨rfl, hq10, hb10⟩; have hJ : Below W1.heap.size W1 w10 ∧ (w10).cell? ⟨w.heap.size, 3, none⟩ = some (.int .i64 s.line) ∧ (w10).cell? ⟨w.heap.size, 15, none⟩ = some (.int .i64 s.phase) ∧ (w10).cell? ⟨w.heap.size, 16, none⟩ = some (.int .i64 s.pc) ∧ (w10).cell? ⟨w.heap.size, 17, none⟩ = some (.int .i64 s.exit) ∧ (w10).cell? ⟨w.heap.size, 18, none⟩ = some (.int .i64 s.stop) ∧ (w10).cell? ⟨w.heap.size, 19, none⟩ = some (.int .i64 s.err) := hq10; have hown10 := Lib.hid (own_blw hown9.out hb10); have hz10 := hq10.1.size))
        | (refine step_append_lies _ rfl (.tmp 31) (.tmp 38) 68 rfl W1.heap.size 9 i0 _ 1 16 Tryd.underlying68 hi hz0 hz1 hz2 rfl Nat.zero_lt_one (.slice (some ⟨g, 0, none⟩) 10 cap) 10 ((whL n s ++ whX s).map Value.string) rfl (hown10.out.alloc _) ⟨w10.heap.size, 0, none⟩ 4 4 [.string ⟨#[101, 114, 114, 111, 114]⟩, .string (txt s.err), .string ⟨#[97, 116]⟩, .string (txt s.stop)] rfl rfl (cells_new w10 _ rfl 9 [.string ⟨#[101, 114, 114, 111, 114]⟩, .string (txt s.err), .string ⟨#[97, 116]⟩, .string (txt s.stop)]) (by intro u hu; simp only [List.mem_cons, List.not_mem_nil, or_false] at hu; rcases hu with rfl | rfl | rfl | rfl <;> rfl) (by decide) (by decide) (by decide) (by simp; omega) _ rfl ?_; intro gA cA wA oA qA _ lA; have hBA := (hq10.1.alloc hz10 _).grown qA (by simp; omega) (fun j hj => (hown10.out.lt j hj).1); have hJ : Below W1.heap.size W1 wA ∧ (wA).cell? ⟨w.heap.size, 3, none⟩ = some (.int .i64 s.line) ∧ (wA).cell? ⟨w.heap.size, 15, none⟩ = some (.int .i64 s.phase) ∧ (wA).cell? ⟨w.heap.size, 16, none⟩ = some (.int .i64 s.pc) ∧ (wA).cell? ⟨w.heap.size, 17, none⟩ = some (.int .i64 s.exit) ∧ (wA).cell? ⟨w.heap.size, 18, none⟩ = some (.int .i64 s.stop) ∧ (wA).cell? ⟨w.heap.size, 19, none⟩ = some (.int .i64 s.err) := hS.out _ hBA; replace oA := Lib.hid oA; replace qA := Lib.hid qA; replace hBA := Lib.hid hBA))
      obtain ⟨g2, cap2, e2, hcap2, hg2, hr2⟩ := strs_row (ss := whL n s ++ whX s ++ whE s) oA.out (by omega)
      replace hr2 := Lib.hid hr2
      cases e2
      go_wp2_with (go_at_call 61; refine (row_any (whL n s ++ whX s ++ whE s) gA cA _ hr2.out hg2 (by simpa [whL, whX, whE] using hcap2) (by simp [whL, whX, whE]) hl14.out).mono ?_; rintro e w11 ⟨rfl, hb11⟩)
      all_goals go_ret
      all_goals exact ⟨by rw [hA.out]; rfl, bl_trans hb1 (bl_trans hBA.out hb11)⟩
  · have p3 : (s.phase == 3) = false := by simpa using q3
    have hA := hA.out
    rw [if_neg q3] at hA
    replace hA := Lib.hid hA
    replace q3 := Lib.hid q3
    go_wp2_with (go_at_call 61; refine (hrow8.out _ _ (by simp)).mono ?_; rintro e w9 ⟨rfl, hb9⟩)
    all_goals go_ret
    all_goals exact ⟨by rw [hA.out]; rfl, bl_trans hb1 (bl_trans hq6.out.1 hb9)⟩
end Go.Proofs.YtjfpepinmbbnbaaDoor
