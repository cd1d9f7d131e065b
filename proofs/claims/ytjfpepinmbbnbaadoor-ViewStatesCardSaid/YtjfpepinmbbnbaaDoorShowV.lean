/-
  view.Show's region, of chapter 30 (printed by gen_showv.py).
  Conditions: as each theorem states them.
-/
import Derived.Test.YtjfpepinmbbnbaaDoorShowN
namespace Go.Proofs.YtjfpepinmbbnbaaDoor
open Go.RowKit
set_option linter.unusedVariables false
set_option linter.unusedSimpArgs false
set_option maxHeartbeats 8000000 in
set_option maxRecDepth 100000 in
theorem show_any (s : StC) (b : StB) (what : ByteArray) (w : World) (hp : Pow w) (hst : StAt w s b) :
    Calls Tryd.prog 32 #[.agg s.cells.toArray, .string what] w (ShowIs (showS s b what) w) := by
  have hz := (Blk.new w 66 s.cells)
  obtain ⟨W1, hW1⟩ : ∃ W1, w.alloc (.cells s.cells.toArray 66) = W1 := ⟨_, rfl⟩
  replace hp := Lib.hid hp
  replace hst := Lib.hid hst
  obtain ⟨R, hRR⟩ : ∃ R, showS s b what = R := ⟨_, rfl⟩
  rw [hRR]
  replace hRR := Lib.hid hRR
  rw [hW1] at hz
  have hlt := hz.lt
  have c0 := hz.cell 0
  have c1 := hz.cell 1
  have c10 := hz.cell 10
  have c11 := hz.cell 11
  have c13 := hz.cell 13
  replace hz := Lib.hid hz
  generalize hcs : s.cells.toArray = cs at *
  go_enter Tryd.func32, Tryd.ntmps32
  go_upto_region 10 with fail
  refine wp_region_inv2 (ShInv s w.heap.size W1.heap.size what W1) (by kernel_rfl) (by kernel_rfl) ?_ ?_ ?_
  · refine ⟨⟨0, 0, 0, 0, 0, 0⟩, rfl, rfl, rfl, rfl, rfl, bl_drew (Below.refl _ _), ?_, ?_, ?_, ?_, ?_, ?_, ?_, ?_⟩
    · exact Gr.below (bl_drew (Below.refl _ _))
    · intro j _ _ hd; rw [rep_false] at hd; cases hd
    all_goals (intro hd; rw [rep_false] at hd; cases hd)
  · intro l a w1 hs hc hi i o ho hn hd
    clear hz hcs hp hst hRR
    replace c0 : W1.cell? ⟨w.heap.size, 0, none⟩ = some s.pat.v := c0
    replace c1 : W1.cell? ⟨w.heap.size, 1, none⟩ = some s.hold.v := c1
    replace c10 : W1.cell? ⟨w.heap.size, 10, none⟩ = some s.rest.v := c10
    replace c11 : W1.cell? ⟨w.heap.size, 11, none⟩ = some s.out.v := c11
    replace c13 : W1.cell? ⟨w.heap.size, 13, none⟩ = some s.place.v := c13
    rcases i with _ | i
    · simp at ho; subst ho
      refine wpOp_value rfl rfl (v := .map (some w1.heap.size)) (w' := w1.alloc (.map #[] 0)) (by simp [execOp]; rfl) ?_
      refine hi.made hs ?_ ?_
      · obtain ⟨G, _, _, _, _, _, g6, _⟩ := hi; exact g6.size
      · have h34 : l.getD 34 false = false := hc.no hn (by kernel_rfl)
        have h36 : l.getD 36 false = false := hc.no h34 (by kernel_rfl)
        have h37 : l.getD 37 false = false := hc.no h36 (by kernel_rfl)
        intro j hj
        simp only [List.mem_cons, List.not_mem_nil, or_false] at hj
        rcases hj with rfl | rfl | rfl | rfl | rfl | rfl | rfl | rfl | rfl | rfl | rfl | rfl | rfl | rfl | rfl
        all_goals first | exact hc.no hn (by decide +kernel) | exact h34 | exact h36 | exact h37 | exact hc.no h37 (by decide +kernel)
    rcases i with _ | i
    · simp at ho; subst ho
      have e6 : a.eval (.tmp 6) = oneV := by obtain ⟨G, _, _, _, _, h, _⟩ := hi; exact h
      refine wpOp_value rfl rfl (v := oneV) (w' := w1) (by simp [execOp, e6]) ?_
      exact hi.val hs (by decide) (by decide) (by decide) _ (fun G _ => rfl)
    rcases i with _ | i
    · simp at ho; subst ho
      have e2 : a.eval (.tmp 2) = ptrV w.heap.size 0 := by obtain ⟨G, _, _, _, h, _⟩ := hi; exact h
      refine wpOp_value rfl rfl (v := ptrV w.heap.size 0) (w' := w1) (by simp [execOp, e2, t2, t3, t9, t14, t15, t20, t21, t27]) ?_
      exact hi.val hs (by decide) (by decide) (by decide) _ (fun G _ => rfl)
    rcases i with _ | i
    · simp at ho; subst ho
      have e2 : a.eval (.tmp 12) = ptrV w.heap.size 0 := by obtain ⟨G, _, _, _, _, _, _, _, g8, _⟩ := hi; exact g8 2 (by decide) (by decide) (hd ⟨2, .data⟩ (by simp) rfl)
      refine wpOp_value rfl rfl (v := ptrV w.heap.size 0) (w' := w1) (by simp [execOp, e2, t2, t3, t9, t14, t15, t20, t21, t27]) ?_
      exact hi.val hs (by decide) (by decide) (by decide) _ (fun G _ => rfl)
    rcases i with _ | i
    · simp at ho; subst ho
      have e2 : a.eval (.tmp 13) = ptrV w.heap.size 0 := by obtain ⟨G, _, _, _, _, _, _, _, g8, _⟩ := hi; exact g8 3 (by decide) (by decide) (hd ⟨3, .data⟩ (by simp) rfl)
      have hcell : w1.cell? ⟨w.heap.size, 0, none⟩ = some s.pat.v := by obtain ⟨G, _, _, _, _, _, _, g7, _⟩ := hi; exact g7.2 _ _ c0
      refine wpOp_value rfl rfl (v := s.pat.v) (w' := w1) (by simp [execOp, e2, t4 _ _ _ _ hcell]) ?_
      exact hi.val hs (by decide) (by decide) (by decide) _ (fun G _ => rfl)
    rcases i with _ | i
    · simp at ho; subst ho
      have e11 : a.eval (.tmp 11) = oneV := by obtain ⟨G, _, _, _, _, _, _, _, g8, _⟩ := hi; exact g8 1 (by decide) (by decide) (hd ⟨1, .data⟩ (by simp) rfl)
      have e14 : a.eval (.tmp 14) = s.pat.v := by obtain ⟨G, _, _, _, _, _, _, _, g8, _⟩ := hi; exact g8 4 (by decide) (by decide) (hd ⟨4, .data⟩ (by simp) rfl)
      refine wpOp_enter rfl rfl (tcall _ _ 11 14 15 _ _ _ e11 e14) ?_
      refine (one_any _ _ _ _).mono ?_
      rintro e w2 ⟨rfl, rfl⟩
      refine ⟨_, rfl, ?_⟩
      have h34 : l.getD 34 false = false := hc.no hn (by kernel_rfl)
      have h36 : l.getD 36 false = false := hc.no h34 (by kernel_rfl)
      have h37 : l.getD 37 false = false := hc.no h36 (by kernel_rfl)
      refine hi.clo5 hs ?_ (hc.no hn (by kernel_rfl)) ?_ _
      · obtain ⟨G, _, _, _, _, _, g6, _⟩ := hi; exact g6.size
      · intro j hj
        simp only [List.mem_cons, List.not_mem_nil, or_false] at hj
        rcases hj with rfl | rfl | rfl | rfl | rfl | rfl | rfl
        all_goals first | exact h34 | exact h36 | exact h37 | exact hc.no h37 (by decide +kernel) | exact hc.no h34 (by decide +kernel)
    rcases i with _ | i
    · simp at ho; subst ho
      obtain ⟨w2, g, e10, hr, hi2⟩ := hi.insert hs (i := 6) (by decide) (by decide) (hd ⟨0, .data⟩ (by simp) rfl) hn ⟨#[112, 97, 116, 116, 101, 114, 110]⟩ (a.eval (.tmp 15)) (fun G g8 => by rw [show a.eval (.tmp 15) = clo G.p0 from g8 5 (by decide) (by decide) (hd ⟨5, .data⟩ (by simp) rfl)]; simp [shT])
      refine wpOp_skip rfl rfl (w' := w2) (by simp [execOp, e10, act_const, act_func, hr, Result.andThen]) ?_
      exact hi2
    rcases i with _ | i
    · simp at ho; subst ho
      have e6 : a.eval (.tmp 6) = oneV := by obtain ⟨G, _, _, _, _, h, _⟩ := hi; exact h
      refine wpOp_value rfl rfl (v := oneV) (w' := w1) (by simp [execOp, e6]) ?_
      exact hi.val hs (by decide) (by decide) (by decide) _ (fun G _ => rfl)
    rcases i with _ | i
    · simp at ho; subst ho
      have e2 : a.eval (.tmp 2) = ptrV w.heap.size 0 := by obtain ⟨G, _, _, _, h, _⟩ := hi; exact h
      refine wpOp_value rfl rfl (v := ptrV w.heap.size 0) (w' := w1) (by simp [execOp, e2, t2, t3, t9, t14, t15, t20, t21, t27]) ?_
      exact hi.val hs (by decide) (by decide) (by decide) _ (fun G _ => rfl)
    rcases i with _ | i
    · simp at ho; subst ho
      have e2 : a.eval (.tmp 17) = ptrV w.heap.size 0 := by obtain ⟨G, _, _, _, _, _, _, _, g8, _⟩ := hi; exact g8 8 (by decide) (by decide) (hd ⟨8, .data⟩ (by simp) rfl)
      refine wpOp_value rfl rfl (v := ptrV w.heap.size 1) (w' := w1) (by simp [execOp, e2, t2, t3, t9, t14, t15, t20, t21, t27]) ?_
      exact hi.val hs (by decide) (by decide) (by decide) _ (fun G _ => rfl)
    rcases i with _ | i
    · simp at ho; subst ho
      have e2 : a.eval (.tmp 18) = ptrV w.heap.size 1 := by obtain ⟨G, _, _, _, _, _, _, _, g8, _⟩ := hi; exact g8 9 (by decide) (by decide) (hd ⟨9, .data⟩ (by simp) rfl)
      have hcell : w1.cell? ⟨w.heap.size, 1, none⟩ = some s.hold.v := by obtain ⟨G, _, _, _, _, _, _, g7, _⟩ := hi; exact g7.2 _ _ c1
      refine wpOp_value rfl rfl (v := s.hold.v) (w' := w1) (by simp [execOp, e2, t4 _ _ _ _ hcell]) ?_
      exact hi.val hs (by decide) (by decide) (by decide) _ (fun G _ => rfl)
    rcases i with _ | i
    · simp at ho; subst ho
      have e16 : a.eval (.tmp 16) = oneV := by obtain ⟨G, _, _, _, _, _, _, _, g8, _⟩ := hi; exact g8 7 (by decide) (by decide) (hd ⟨7, .data⟩ (by simp) rfl)
      have e19 : a.eval (.tmp 19) = s.hold.v := by obtain ⟨G, _, _, _, _, _, _, _, g8, _⟩ := hi; exact g8 10 (by decide) (by decide) (hd ⟨10, .data⟩ (by simp) rfl)
      refine wpOp_enter rfl rfl (tcall _ _ 16 19 20 _ _ _ e16 e19) ?_
      refine (one_any _ _ _ _).mono ?_
      rintro e w2 ⟨rfl, rfl⟩
      refine ⟨_, rfl, ?_⟩
      have h34 : l.getD 34 false = false := hc.no hn (by kernel_rfl)
      have h36 : l.getD 36 false = false := hc.no h34 (by kernel_rfl)
      have h37 : l.getD 37 false = false := hc.no h36 (by kernel_rfl)
      refine hi.clo11 hs ?_ (hc.no hn (by kernel_rfl)) ?_ _
      · obtain ⟨G, _, _, _, _, _, g6, _⟩ := hi; exact g6.size
      · intro j hj
        simp only [List.mem_cons, List.not_mem_nil, or_false] at hj
        rcases hj with rfl | rfl | rfl | rfl | rfl | rfl | rfl
        all_goals first | exact h34 | exact h36 | exact h37 | exact hc.no h37 (by decide +kernel) | exact hc.no h34 (by decide +kernel)
    rcases i with _ | i
    · simp at ho; subst ho
      obtain ⟨w2, g, e10, hr, hi2⟩ := hi.insert hs (i := 12) (by decide) (by decide) (hd ⟨0, .data⟩ (by simp) rfl) hn ⟨#[104, 111, 108, 100]⟩ (a.eval (.tmp 20)) (fun G g8 => by rw [show a.eval (.tmp 20) = clo G.p1 from g8 11 (by decide) (by decide) (hd ⟨11, .data⟩ (by simp) rfl)]; simp [shT])
      refine wpOp_skip rfl rfl (w' := w2) (by simp [execOp, e10, act_const, act_func, hr, Result.andThen]) ?_
      exact hi2
    rcases i with _ | i
    · simp at ho; subst ho
      have e6 : a.eval (.tmp 6) = oneV := by obtain ⟨G, _, _, _, _, h, _⟩ := hi; exact h
      refine wpOp_value rfl rfl (v := oneV) (w' := w1) (by simp [execOp, e6]) ?_
      exact hi.val hs (by decide) (by decide) (by decide) _ (fun G _ => rfl)
    rcases i with _ | i
    · simp at ho; subst ho
      have e2 : a.eval (.tmp 2) = ptrV w.heap.size 0 := by obtain ⟨G, _, _, _, h, _⟩ := hi; exact h
      refine wpOp_value rfl rfl (v := ptrV w.heap.size 6) (w' := w1) (by simp [execOp, e2, t2, t3, t9, t14, t15, t20, t21, t27]) ?_
      exact hi.val hs (by decide) (by decide) (by decide) _ (fun G _ => rfl)
    rcases i with _ | i
    · simp at ho; subst ho
      have e2 : a.eval (.tmp 22) = ptrV w.heap.size 6 := by obtain ⟨G, _, _, _, _, _, _, _, g8, _⟩ := hi; exact g8 14 (by decide) (by decide) (hd ⟨14, .data⟩ (by simp) rfl)
      refine wpOp_value rfl rfl (v := ptrV w.heap.size 10) (w' := w1) (by simp [execOp, e2, t2, t3, t9, t14, t15, t20, t21, t27]) ?_
      exact hi.val hs (by decide) (by decide) (by decide) _ (fun G _ => rfl)
    rcases i with _ | i
    · simp at ho; subst ho
      have e2 : a.eval (.tmp 23) = ptrV w.heap.size 10 := by obtain ⟨G, _, _, _, _, _, _, _, g8, _⟩ := hi; exact g8 15 (by decide) (by decide) (hd ⟨15, .data⟩ (by simp) rfl)
      have hcell : w1.cell? ⟨w.heap.size, 10, none⟩ = some s.rest.v := by obtain ⟨G, _, _, _, _, _, _, g7, _⟩ := hi; exact g7.2 _ _ c10
      refine wpOp_value rfl rfl (v := s.rest.v) (w' := w1) (by simp [execOp, e2, t4 _ _ _ _ hcell]) ?_
      exact hi.val hs (by decide) (by decide) (by decide) _ (fun G _ => rfl)
    rcases i with _ | i
    · simp at ho; subst ho
      have e21 : a.eval (.tmp 21) = oneV := by obtain ⟨G, _, _, _, _, _, _, _, g8, _⟩ := hi; exact g8 13 (by decide) (by decide) (hd ⟨13, .data⟩ (by simp) rfl)
      have e24 : a.eval (.tmp 24) = s.rest.v := by obtain ⟨G, _, _, _, _, _, _, _, g8, _⟩ := hi; exact g8 16 (by decide) (by decide) (hd ⟨16, .data⟩ (by simp) rfl)
      refine wpOp_enter rfl rfl (tcall _ _ 21 24 25 _ _ _ e21 e24) ?_
      refine (one_any _ _ _ _).mono ?_
      rintro e w2 ⟨rfl, rfl⟩
      refine ⟨_, rfl, ?_⟩
      have h34 : l.getD 34 false = false := hc.no hn (by kernel_rfl)
      have h36 : l.getD 36 false = false := hc.no h34 (by kernel_rfl)
      have h37 : l.getD 37 false = false := hc.no h36 (by kernel_rfl)
      refine hi.clo17 hs ?_ (hc.no hn (by kernel_rfl)) ?_ _
      · obtain ⟨G, _, _, _, _, _, g6, _⟩ := hi; exact g6.size
      · intro j hj
        simp only [List.mem_cons, List.not_mem_nil, or_false] at hj
        rcases hj with rfl | rfl | rfl | rfl | rfl | rfl | rfl
        all_goals first | exact h34 | exact h36 | exact h37 | exact hc.no h37 (by decide +kernel) | exact hc.no h34 (by decide +kernel)
    rcases i with _ | i
    · simp at ho; subst ho
      obtain ⟨w2, g, e10, hr, hi2⟩ := hi.insert hs (i := 18) (by decide) (by decide) (hd ⟨0, .data⟩ (by simp) rfl) hn ⟨#[114, 101, 115, 116]⟩ (a.eval (.tmp 25)) (fun G g8 => by rw [show a.eval (.tmp 25) = clo G.p2 from g8 17 (by decide) (by decide) (hd ⟨17, .data⟩ (by simp) rfl)]; simp [shT])
      refine wpOp_skip rfl rfl (w' := w2) (by simp [execOp, e10, act_const, act_func, hr, Result.andThen]) ?_
      exact hi2
    rcases i with _ | i
    · simp at ho; subst ho
      have e6 : a.eval (.tmp 6) = oneV := by obtain ⟨G, _, _, _, _, h, _⟩ := hi; exact h
      refine wpOp_value rfl rfl (v := oneV) (w' := w1) (by simp [execOp, e6]) ?_
      exact hi.val hs (by decide) (by decide) (by decide) _ (fun G _ => rfl)
    rcases i with _ | i
    · simp at ho; subst ho
      have e2 : a.eval (.tmp 2) = ptrV w.heap.size 0 := by obtain ⟨G, _, _, _, h, _⟩ := hi; exact h
      refine wpOp_value rfl rfl (v := ptrV w.heap.size 11) (w' := w1) (by simp [execOp, e2, t2, t3, t9, t14, t15, t20, t21, t27]) ?_
      exact hi.val hs (by decide) (by decide) (by decide) _ (fun G _ => rfl)
    rcases i with _ | i
    · simp at ho; subst ho
      have e2 : a.eval (.tmp 27) = ptrV w.heap.size 11 := by obtain ⟨G, _, _, _, _, _, _, _, g8, _⟩ := hi; exact g8 20 (by decide) (by decide) (hd ⟨20, .data⟩ (by simp) rfl)
      refine wpOp_value rfl rfl (v := ptrV w.heap.size 11) (w' := w1) (by simp [execOp, e2, t2, t3, t9, t14, t15, t20, t21, t27]) ?_
      exact hi.val hs (by decide) (by decide) (by decide) _ (fun G _ => rfl)
    rcases i with _ | i
    · simp at ho; subst ho
      have e2 : a.eval (.tmp 28) = ptrV w.heap.size 11 := by obtain ⟨G, _, _, _, _, _, _, _, g8, _⟩ := hi; exact g8 21 (by decide) (by decide) (hd ⟨21, .data⟩ (by simp) rfl)
      have hcell : w1.cell? ⟨w.heap.size, 11, none⟩ = some s.out.v := by obtain ⟨G, _, _, _, _, _, _, g7, _⟩ := hi; exact g7.2 _ _ c11
      refine wpOp_value rfl rfl (v := s.out.v) (w' := w1) (by simp [execOp, e2, t4 _ _ _ _ hcell]) ?_
      exact hi.val hs (by decide) (by decide) (by decide) _ (fun G _ => rfl)
    rcases i with _ | i
    · simp at ho; subst ho
      have e26 : a.eval (.tmp 26) = oneV := by obtain ⟨G, _, _, _, _, _, _, _, g8, _⟩ := hi; exact g8 19 (by decide) (by decide) (hd ⟨19, .data⟩ (by simp) rfl)
      have e29 : a.eval (.tmp 29) = s.out.v := by obtain ⟨G, _, _, _, _, _, _, _, g8, _⟩ := hi; exact g8 22 (by decide) (by decide) (hd ⟨22, .data⟩ (by simp) rfl)
      refine wpOp_enter rfl rfl (tcall _ _ 26 29 30 _ _ _ e26 e29) ?_
      refine (one_any _ _ _ _).mono ?_
      rintro e w2 ⟨rfl, rfl⟩
      refine ⟨_, rfl, ?_⟩
      have h34 : l.getD 34 false = false := hc.no hn (by kernel_rfl)
      have h36 : l.getD 36 false = false := hc.no h34 (by kernel_rfl)
      have h37 : l.getD 37 false = false := hc.no h36 (by kernel_rfl)
      refine hi.clo23 hs ?_ (hc.no hn (by kernel_rfl)) ?_ _
      · obtain ⟨G, _, _, _, _, _, g6, _⟩ := hi; exact g6.size
      · intro j hj
        simp only [List.mem_cons, List.not_mem_nil, or_false] at hj
        rcases hj with rfl | rfl | rfl | rfl | rfl | rfl | rfl
        all_goals first | exact h34 | exact h36 | exact h37 | exact hc.no h37 (by decide +kernel) | exact hc.no h34 (by decide +kernel)
    rcases i with _ | i
    · simp at ho; subst ho
      obtain ⟨w2, g, e10, hr, hi2⟩ := hi.insert hs (i := 24) (by decide) (by decide) (hd ⟨0, .data⟩ (by simp) rfl) hn ⟨#[111, 117, 116]⟩ (a.eval (.tmp 30)) (fun G g8 => by rw [show a.eval (.tmp 30) = clo G.p3 from g8 23 (by decide) (by decide) (hd ⟨23, .data⟩ (by simp) rfl)]; simp [shT])
      refine wpOp_skip rfl rfl (w' := w2) (by simp [execOp, e10, act_const, act_func, hr, Result.andThen]) ?_
      exact hi2
    rcases i with _ | i
    · simp at ho; subst ho
      have e6 : a.eval (.tmp 6) = oneV := by obtain ⟨G, _, _, _, _, h, _⟩ := hi; exact h
      refine wpOp_value rfl rfl (v := oneV) (w' := w1) (by simp [execOp, e6]) ?_
      exact hi.val hs (by decide) (by decide) (by decide) _ (fun G _ => rfl)
    rcases i with _ | i
    · simp at ho; subst ho
      have e2 : a.eval (.tmp 2) = ptrV w.heap.size 0 := by obtain ⟨G, _, _, _, h, _⟩ := hi; exact h
      refine wpOp_value rfl rfl (v := ptrV w.heap.size 11) (w' := w1) (by simp [execOp, e2, t2, t3, t9, t14, t15, t20, t21, t27]) ?_
      exact hi.val hs (by decide) (by decide) (by decide) _ (fun G _ => rfl)
    rcases i with _ | i
    · simp at ho; subst ho
      have e2 : a.eval (.tmp 32) = ptrV w.heap.size 11 := by obtain ⟨G, _, _, _, _, _, _, _, g8, _⟩ := hi; exact g8 26 (by decide) (by decide) (hd ⟨26, .data⟩ (by simp) rfl)
      refine wpOp_value rfl rfl (v := ptrV w.heap.size 13) (w' := w1) (by simp [execOp, e2, t2, t3, t9, t14, t15, t20, t21, t27]) ?_
      exact hi.val hs (by decide) (by decide) (by decide) _ (fun G _ => rfl)
    rcases i with _ | i
    · simp at ho; subst ho
      have e2 : a.eval (.tmp 33) = ptrV w.heap.size 13 := by obtain ⟨G, _, _, _, _, _, _, _, g8, _⟩ := hi; exact g8 27 (by decide) (by decide) (hd ⟨27, .data⟩ (by simp) rfl)
      have hcell : w1.cell? ⟨w.heap.size, 13, none⟩ = some s.place.v := by obtain ⟨G, _, _, _, _, _, _, g7, _⟩ := hi; exact g7.2 _ _ c13
      refine wpOp_value rfl rfl (v := s.place.v) (w' := w1) (by simp [execOp, e2, t4 _ _ _ _ hcell]) ?_
      exact hi.val hs (by decide) (by decide) (by decide) _ (fun G _ => rfl)
    rcases i with _ | i
    · simp at ho; subst ho
      have e31 : a.eval (.tmp 31) = oneV := by obtain ⟨G, _, _, _, _, _, _, _, g8, _⟩ := hi; exact g8 25 (by decide) (by decide) (hd ⟨25, .data⟩ (by simp) rfl)
      have e34 : a.eval (.tmp 34) = s.place.v := by obtain ⟨G, _, _, _, _, _, _, _, g8, _⟩ := hi; exact g8 28 (by decide) (by decide) (hd ⟨28, .data⟩ (by simp) rfl)
      refine wpOp_enter rfl rfl (tcall _ _ 31 34 35 _ _ _ e31 e34) ?_
      refine (one_any _ _ _ _).mono ?_
      rintro e w2 ⟨rfl, rfl⟩
      refine ⟨_, rfl, ?_⟩
      have h34 : l.getD 34 false = false := hc.no hn (by kernel_rfl)
      have h36 : l.getD 36 false = false := hc.no h34 (by kernel_rfl)
      have h37 : l.getD 37 false = false := hc.no h36 (by kernel_rfl)
      refine hi.clo29 hs ?_ (hc.no hn (by kernel_rfl)) ?_ _
      · obtain ⟨G, _, _, _, _, _, g6, _⟩ := hi; exact g6.size
      · intro j hj
        simp only [List.mem_cons, List.not_mem_nil, or_false] at hj
        rcases hj with rfl | rfl | rfl | rfl | rfl | rfl | rfl
        all_goals first | exact h34 | exact h36 | exact h37 | exact hc.no h37 (by decide +kernel) | exact hc.no h34 (by decide +kernel)
    rcases i with _ | i
    · simp at ho; subst ho
      obtain ⟨w2, g, e10, hr, hi2⟩ := hi.insert hs (i := 30) (by decide) (by decide) (hd ⟨0, .data⟩ (by simp) rfl) hn ⟨#[112, 108, 97, 99, 101]⟩ (a.eval (.tmp 35)) (fun G g8 => by rw [show a.eval (.tmp 35) = clo G.p4 from g8 29 (by decide) (by decide) (hd ⟨29, .data⟩ (by simp) rfl)]; simp [shT])
      refine wpOp_skip rfl rfl (w' := w2) (by simp [execOp, e10, act_const, act_func, hr, Result.andThen]) ?_
      exact hi2
    rcases i with _ | i
    · simp at ho; subst ho
      obtain ⟨w2, g, e10, hr, hi2⟩ := hi.insert hs (i := 31) (by decide) (by decide) (hd ⟨0, .data⟩ (by simp) rfl) hn ⟨#[114, 101, 103, 115]⟩ (fnV 66) (fun G g8 => by simp [shT])
      refine wpOp_skip rfl rfl (w' := w2) (by simp [execOp, e10, act_const, act_func, hr, Result.andThen]) ?_
      exact hi2
    rcases i with _ | i
    · simp at ho; subst ho
      obtain ⟨w2, g, e10, hr, hi2⟩ := hi.insert hs (i := 32) (by decide) (by decide) (hd ⟨0, .data⟩ (by simp) rfl) hn ⟨#[119, 97, 105, 116, 115]⟩ (fnV 67) (fun G g8 => by simp [shT])
      refine wpOp_skip rfl rfl (w' := w2) (by simp [execOp, e10, act_const, act_func, hr, Result.andThen]) ?_
      exact hi2
    rcases i with _ | i
    · simp at ho; subst ho
      obtain ⟨w2, g, e10, hr, hi2⟩ := hi.insert hs (i := 33) (by decide) (by decide) (hd ⟨0, .data⟩ (by simp) rfl) hn ⟨#[102, 105, 108, 101, 115]⟩ (fnV 68) (fun G g8 => by simp [shT])
      refine wpOp_skip rfl rfl (w' := w2) (by simp [execOp, e10, act_const, act_func, hr, Result.andThen]) ?_
      exact hi2
    rcases i with _ | i
    · simp at ho; subst ho
      obtain ⟨g, e10⟩ : ∃ g, a.eval (.tmp 10) = .map (some g) := by obtain ⟨G, _, _, _, _, _, _, _, g8, _⟩ := hi; exact ⟨_, g8 0 (by decide) (by decide) (hd ⟨0, .data⟩ (by simp) rfl)⟩
      refine wpOp_value rfl rfl (v := .map (some g)) (w' := w1) (by simp [execOp, e10]) ?_
      exact hi.val hs (by decide) (by decide) (by decide) _ (fun G g8 => e10.symm.trans (g8 0 (by decide) (by decide) (hd ⟨0, .data⟩ (by simp) rfl)))
    rcases i with _ | i
    · simp at ho; subst ho
      have e1 : a.eval (.tmp 1) = .string what := by obtain ⟨G, _, _, h, _⟩ := hi; exact h
      refine wpOp_value rfl rfl (v := .string what) (w' := w1) (by simp [execOp, e1]) ?_
      exact hi.val hs (by decide) (by decide) (by decide) _ (fun G _ => rfl)
    rcases i with _ | i
    · simp at ho; subst ho
      have h34 : l.getD 34 false = true := hd ⟨34, .data⟩ (by simp) rfl
      have hall : ∀ j ∈ [0, 5, 6, 11, 12, 17, 18, 23, 24, 29, 30, 31, 32, 33, 34], l.getD j false = true := by
        intro j hj
        simp only [List.mem_cons, List.not_mem_nil, or_false] at hj
        rcases hj with rfl | rfl | rfl | rfl | rfl | rfl | rfl | rfl | rfl | rfl | rfl | rfl | rfl | rfl | rfl
        all_goals first | exact h34 | exact hc.yes h34 (by decide +kernel)
      obtain ⟨g, v, e36, e37, hr, hi2⟩ := hi.look hs hall (hd ⟨35, .data⟩ (by simp) rfl)
      refine wpOp_value rfl rfl (v := v) (w' := w1) (by simp [execOp, e36, e37, hr]) ?_
      exact hi2
    rcases i with _ | i
    · simp at ho; subst ho
      refine wpOp_value rfl rfl (v := a.eval (.tmp 38)) (w' := w1) (by simp [execOp]) ?_
      exact hi.val hs (by decide) (by decide) (by decide) _ (fun G g8 => g8 36 (by decide) (by decide) (hd ⟨36, .data⟩ (by simp) rfl))
    rcases i with _ | i
    · simp at ho; subst ho
      obtain ⟨v, b, e9⟩ : ∃ v b, a.eval (.tmp 9) = .tuple #[v, .bool b] := by obtain ⟨G, _, _, _, _, _, _, _, g8, _⟩ := hi; exact ⟨_, _, g8 37 (by decide) (by decide) (hd ⟨37, .data⟩ (by simp) rfl)⟩
      refine wpOp_value rfl rfl (v := v) (w' := w1) (by simp [execOp, e9]; try rfl) ?_
      exact hi.val hs (by decide) (by decide) (by decide) _ (fun G g8 => by
        have e := e9.symm.trans (g8 37 (by decide) (by decide) (hd ⟨37, .data⟩ (by simp) rfl))
        simp only [valOf, List.getD_cons_succ, List.getD_cons_zero, Value.tuple.injEq, Array.mk.injEq, List.cons.injEq] at e
        exact e.1)
    rcases i with _ | i
    · simp at ho; subst ho
      obtain ⟨v, b, e9⟩ : ∃ v b, a.eval (.tmp 9) = .tuple #[v, .bool b] := by obtain ⟨G, _, _, _, _, _, _, _, g8, _⟩ := hi; exact ⟨_, _, g8 37 (by decide) (by decide) (hd ⟨37, .data⟩ (by simp) rfl)⟩
      refine wpOp_value rfl rfl (v := .bool b) (w' := w1) (by simp [execOp, e9]; try rfl) ?_
      exact hi.val hs (by decide) (by decide) (by decide) _ (fun G g8 => by
        have e := e9.symm.trans (g8 37 (by decide) (by decide) (hd ⟨37, .data⟩ (by simp) rfl))
        simp only [valOf, List.getD_cons_succ, List.getD_cons_zero, Value.tuple.injEq, Array.mk.injEq, List.cons.injEq] at e
        exact e.2.1)
    rcases i with _ | i
    · simp at ho; subst ho
      refine wpOp_value rfl rfl (v := a.eval (.tmp 39)) (w' := w1) (by simp [execOp]) ?_
      exact hi.val hs (by decide) (by decide) (by decide) _ (fun G g8 => g8 38 (by decide) (by decide) (hd ⟨38, .data⟩ (by simp) rfl))
    rcases i with _ | i
    · simp at ho; subst ho
      refine wpOp_value rfl rfl (v := a.eval (.tmp 40)) (w' := w1) (by simp [execOp]) ?_
      exact hi.val hs (by decide) (by decide) (by decide) _ (fun G g8 => g8 39 (by decide) (by decide) (hd ⟨39, .data⟩ (by simp) rfl))
    simp at ho
  · intro l a w1 hall hi
    obtain ⟨G, g1, g2, g3, g4, g5, g6, g7, g8, g9, g10, g11, g12, g13, g14⟩ := hi
    have e7 := g8 40 (by omega) (by decide) (hall 40 (by decide))
    have e8 := g8 41 (by omega) (by decide) (hall 41 (by decide))
    have k5 := g9 (hall 5 (by decide))
    have k11 := g10 (hall 11 (by decide))
    have k17 := g11 (hall 17 (by decide))
    have k23 := g12 (hall 23 (by decide))
    have k29 := g13 (hall 29 (by decide))
    clear g8 g9 g10 g11 g12 g13 g14
    obtain ⟨ts, ds⟩ := a
    obtain ⟨u0, u1, u2, u3, u4, u5, u6, u7, u8, u9, u10, u11, u12, u13, u14, u15, u16, u17, u18, u19, u20, u21, u22, u23, u24, u25, u26, u27, u28, u29, u30, u31, u32, u33, u34, u35, u36, u37, u38, u39, u40, u41, u42, u43, u44, u45, rfl⟩ := lit46 ts g1
    replace e7 : u7 = (shR G what).1 := e7
    replace e8 : u8 = .bool (shR G what).2 := e8
    replace g3 : u1 = .string what := g3
    replace g4 : u2 = ptrV w.heap.size 0 := g4
    replace g2 : ds = [] := g2
    subst e7 e8 g3 g4 g2
    clear g1 g5 hall c0 c1 c10 c11 c13
    have hb1 : Below w.heap.size w W1 := by rw [← hW1]; exact bl_alloc (Below.refl _ _) _
    have hbw := bl_trans hb1 g6
    have hzz : w1.heap[w.heap.size]? = some (.cells cs 66 (0, 0)) := by rw [← hcs]; exact hz.out.below g6
    clear hz g7
    have hpw := hp.out.below hbw
    have hsw := hst.out.below hbw
    clear hp hst hW1 hb1
    have hret : ∀ v w2 l, R = some l → StrsAt w2 v l → Below w1.heap.size w1 w2 → ShowIs R w (.returned (.tuple #[v, .bool true])) w2 := fun v w2 l e h1 h2 => by subst e; exact ⟨v, rfl, h1, bl_trans hbw h2⟩
    have hnone : R = none → ShowIs R w (.returned (.tuple #[.slice none 0 0, .bool false])) w1 := fun e => by subst e; exact ⟨_, rfl, StrsAt.nil _, hbw⟩
    replace hret := Lib.hid hret
    replace hnone := Lib.hid hnone
    have hinfo : (Tryd.prog.info? 66).map (·.size) = some cs.size := by rw [← hcs]; kernel_rfl
    replace hinfo := Lib.hid hinfo
    replace hzz := Lib.hid hzz
    replace hp := Lib.hid hpw
    replace hst := Lib.hid hsw
    clear hpw hsw hbw g6 hlt
    rcases shR_is G what s b with ⟨hR, hS⟩ | ⟨hR, hS⟩ | ⟨hR, hS⟩ | ⟨hR, hS⟩ | ⟨hR, hS⟩ | ⟨hR, hS⟩ | ⟨hR, hS⟩ | ⟨hR, hS⟩ | ⟨hR, hS⟩
    all_goals rw [hR]
    all_goals replace hS := Lib.hid (hRR.out.symm.trans hS)
    all_goals clear hR hRR
    · as_aux_lemma =>
      have hc := Lib.hid (told_any s G.p0 s.pat.a s.pat.c b.pat (by have := hst.out.patL; omega) w1 (by rw [← hst.out.patN]; exact k5) hst.out.patAt)
      rw [hcs] at hc
      clear hcs k5 k11 k17 k23 k29
      go_wp2_with (first | (with_reducible refine wpList_load_row rfl 66 (.tmp 2) rfl w.heap.size rfl 66 cs (0, 0) _ hzz.out Tryd.underlying66 rfl hinfo.out ?_) | (go_at_call 64; refine hc.out.mono ?_; rintro e w2 ⟨g, rfl, hg1, hg2, hg3, hg4⟩))
      exact bodyPost_ret (v := .tuple #[.slice (some ⟨g, 0, none⟩) 1 1, .bool true]) (by simp [results, Tryd.results32, go_sem]) rfl (hret.out _ _ _ hS.out (StrsAt.one hg1 hg3) hg4)
    · as_aux_lemma =>
      have hc := Lib.hid (told_any s G.p1 s.hold.a s.hold.c b.hold (by have := hst.out.holdL; omega) w1 (by rw [← hst.out.holdN]; exact k11) hst.out.holdAt)
      rw [hcs] at hc
      clear hcs k5 k11 k17 k23 k29
      go_wp2_with (first | (with_reducible refine wpList_load_row rfl 66 (.tmp 2) rfl w.heap.size rfl 66 cs (0, 0) _ hzz.out Tryd.underlying66 rfl hinfo.out ?_) | (go_at_call 64; refine hc.out.mono ?_; rintro e w2 ⟨g, rfl, hg1, hg2, hg3, hg4⟩))
      exact bodyPost_ret (v := .tuple #[.slice (some ⟨g, 0, none⟩) 1 1, .bool true]) (by simp [results, Tryd.results32, go_sem]) rfl (hret.out _ _ _ hS.out (StrsAt.one hg1 hg3) hg4)
    · as_aux_lemma =>
      have hc := Lib.hid (told_any s G.p2 s.rest.a s.rest.c b.rest (by have := hst.out.restL; omega) w1 (by rw [← hst.out.restN]; exact k17) hst.out.restAt)
      rw [hcs] at hc
      clear hcs k5 k11 k17 k23 k29
      go_wp2_with (first | (with_reducible refine wpList_load_row rfl 66 (.tmp 2) rfl w.heap.size rfl 66 cs (0, 0) _ hzz.out Tryd.underlying66 rfl hinfo.out ?_) | (go_at_call 64; refine hc.out.mono ?_; rintro e w2 ⟨g, rfl, hg1, hg2, hg3, hg4⟩))
      exact bodyPost_ret (v := .tuple #[.slice (some ⟨g, 0, none⟩) 1 1, .bool true]) (by simp [results, Tryd.results32, go_sem]) rfl (hret.out _ _ _ hS.out (StrsAt.one hg1 hg3) hg4)
    · as_aux_lemma =>
      have hc := Lib.hid (told_any s G.p3 s.out.a s.out.c b.out (by have := hst.out.outL; omega) w1 (by rw [← hst.out.outN]; exact k23) hst.out.outAt)
      rw [hcs] at hc
      clear hcs k5 k11 k17 k23 k29
      go_wp2_with (first | (with_reducible refine wpList_load_row rfl 66 (.tmp 2) rfl w.heap.size rfl 66 cs (0, 0) _ hzz.out Tryd.underlying66 rfl hinfo.out ?_) | (go_at_call 64; refine hc.out.mono ?_; rintro e w2 ⟨g, rfl, hg1, hg2, hg3, hg4⟩))
      exact bodyPost_ret (v := .tuple #[.slice (some ⟨g, 0, none⟩) 1 1, .bool true]) (by simp [results, Tryd.results32, go_sem]) rfl (hret.out _ _ _ hS.out (StrsAt.one hg1 hg3) hg4)
    · as_aux_lemma =>
      have hc := Lib.hid (told_any s G.p4 s.place.a s.place.c b.place (by have := hst.out.placeL; omega) w1 (by rw [← hst.out.placeN]; exact k29) hst.out.placeAt)
      rw [hcs] at hc
      clear hcs k5 k11 k17 k23 k29
      go_wp2_with (first | (with_reducible refine wpList_load_row rfl 66 (.tmp 2) rfl w.heap.size rfl 66 cs (0, 0) _ hzz.out Tryd.underlying66 rfl hinfo.out ?_) | (go_at_call 64; refine hc.out.mono ?_; rintro e w2 ⟨g, rfl, hg1, hg2, hg3, hg4⟩))
      exact bodyPost_ret (v := .tuple #[.slice (some ⟨g, 0, none⟩) 1 1, .bool true]) (by simp [results, Tryd.results32, go_sem]) rfl (hret.out _ _ _ hS.out (StrsAt.one hg1 hg3) hg4)
    · as_aux_lemma =>
      have hc := Lib.hid (regs_any s hst.out.ok w1 hp.out)
      rw [hcs] at hc
      clear hcs k5 k11 k17 k23 k29
      go_wp2_with (first | (with_reducible refine wpList_load_row rfl 66 (.tmp 2) rfl w.heap.size rfl 66 cs (0, 0) _ hzz.out Tryd.underlying66 rfl hinfo.out ?_) | (go_at_call 66; refine hc.out.mono ?_; rintro e w2 ⟨g, rfl, hg1, hg2, hg3, hg4⟩))
      exact bodyPost_ret (v := .tuple #[.slice (some ⟨g, 0, none⟩) 1 1, .bool true]) (by simp [results, Tryd.results32, go_sem]) rfl (hret.out _ _ _ hS.out (StrsAt.one hg1 hg3) hg4)
    · as_aux_lemma =>
      have hc := Lib.hid (waits_any s b.waits hst.out.waitsL hst.out.waitsN w1 hst.out.waitsAt)
      rw [hcs] at hc
      clear hcs k5 k11 k17 k23 k29
      go_wp2_with (first | (with_reducible refine wpList_load_row rfl 66 (.tmp 2) rfl w.heap.size rfl 66 cs (0, 0) _ hzz.out Tryd.underlying66 rfl hinfo.out ?_) | (go_at_call 67; refine hc.out.mono ?_; rintro e w2 ⟨v, rfl, ho, hg4⟩))
      exact bodyPost_ret (v := .tuple #[v, .bool true]) (by simp [results, Tryd.results32, go_sem]) rfl (hret.out _ _ _ hS.out (StrsAt.own ho) hg4)
    · as_aux_lemma =>
      have hc := Lib.hid (table_any s (b.files.map (·.fl)) (by rw [List.length_map]; exact hst.out.filesL) (by rw [List.length_map]; exact hst.out.filesN) w1 hp.out hst.out.filesAt)
      rw [hcs] at hc
      clear hcs k5 k11 k17 k23 k29
      go_wp2_with (first | (with_reducible refine wpList_load_row rfl 66 (.tmp 2) rfl w.heap.size rfl 66 cs (0, 0) _ hzz.out Tryd.underlying66 rfl hinfo.out ?_) | (go_at_call 68; refine hc.out.mono ?_; rintro e w2 ⟨v, rfl, ho, hg4⟩))
      exact bodyPost_ret (v := .tuple #[v, .bool true]) (by simp [results, Tryd.results32, go_sem]) rfl (hret.out _ _ _ hS.out (StrsAt.own ho) hg4)
    · as_aux_lemma =>
      clear hcs k5 k11 k17 k23 k29
      go_wp2_with fail
      exact bodyPost_ret (v := .tuple #[.slice none 0 0, .bool false]) (by simp [results, Tryd.results32, go_sem]) rfl (hnone.out hS.out)
end Go.Proofs.YtjfpepinmbbnbaaDoor
