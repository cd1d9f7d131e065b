/-
  The contracts of break, list, and of a rule's reader, of chapter 29.
  Conditions: as each theorem states them.
-/
import Derived.Test.YtjfpepinmbbnbaaDoorOrd3
namespace Go.Proofs.YtjfpepinmbbnbaaDoor
open Go.RowKit
set_option linter.unusedVariables false
set_option linter.unusedSimpArgs false
def TwoO (w : World) (H : Nat) (n m : Int) : Prop := Blk w H 41 [.int .i64 0, .int .i64 0, .int .i64 0, .string ⟨#[]⟩] ∧ Blk w (H + 1) 41 [.int .i64 7, .int .i64 n, .int .i64 m, .string ⟨#[]⟩]
set_option maxHeartbeats 2000000 in
set_option maxRecDepth 100000 in
theorem breaksN (b o n c : Nat) (x y : List UInt8) (i : Int) (hi : OM.idx [OM.cmdW, OM.lineW] x = i) (hi0 : i = 0 ∨ i = 1) (w : World) (hn2 : 2 ≤ n) (hn : n ≤ 1000000) (hy : y.length ≤ 1000000) (c1 : w.cell? ⟨b, o, none⟩ = some (strV x)) (c2 : w.cell? ⟨b, o + 1, none⟩ = some (strV y)) :
    Calls Tryd.prog 57 #[.slice (some ⟨b, o, none⟩) n c] w (OrdIs (⟨7, (OM.num y).1, i, []⟩, if (OM.num y).2 = 0 ∧ 2 < n then 9 else (OM.num y).2) w) := by
  have hl1 : b < w.heap.size := World.block_lt_of_cell? w _ c1
  have hidx := fun (W : World) (g : Nat) (hg : g = W.heap.size) => (by
    subst hg
    exact index_any (some ⟨W.heap.size, 0, none⟩) 2 [OM.cmdW, OM.lineW] x (W.alloc (.cells ([OM.cmdW, OM.lineW].map strV).toArray 9)) (by simp) (StrAt.lit W _ _) :
    Calls Tryd.prog 82 #[.slice (some ⟨g, 0, none⟩) 2 2, strV x] (W.alloc (.cells #[.string ⟨#[99, 109, 100]⟩, .string ⟨#[108, 105, 110, 101]⟩] 9)) fun e w' => e = .returned (.int .i64 (OM.idx [OM.cmdW, OM.lineW] x)) ∧ (W.alloc (.cells #[.string ⟨#[99, 109, 100]⟩, .string ⟨#[108, 105, 110, 101]⟩] 9)) = w')
  rw [hi] at hidx
  have hnum := Lib.hid (fun (W : World) => number_any y W hy)
  have e0 : decide ((0 : Int) < n) = true := by rw [decide_eq_true_eq]; omega
  have e1 : ((n : Int) == 1) = false := by simp; omega
  have e2 : (1 : Int) < n := by omega
  have e5 : (0 : Int) < n := by omega
  have e6 : 0 < n := by omega
  have e7 : 1 < n := by omega
  have e3 : decide (i < 0) = false := by rw [decide_eq_false_iff_not]; omega
  have e4 : 0 ≤ i ∧ i < 2 := by omega
  generalize hq : OM.num y = q at *
  obtain ⟨qn, qe⟩ := q
  simp only at hnum ⊢
  obtain ⟨E, hE⟩ : ∃ E, (if qe = 0 ∧ 2 < n then (9 : Int) else qe) = E := ⟨_, rfl⟩
  rw [hE]
  replace hE := Lib.hid hE
  replace hq := Lib.hid hq
  replace hi := Lib.hid hi
  replace hidx := Lib.hid hidx
  have l1 : b < w.heap.size + 1 := by omega
  have l2 : b < w.heap.size + 1 + 1 := by omega
  clear e3 e4
  rcases hi0 with rfl | rfl
  case' inl => obtain ⟨IV, hIV⟩ : ∃ IV : Int, IV = 0 := ⟨_, rfl⟩
  case' inr => obtain ⟨IV, hIV⟩ : ∃ IV : Int, IV = 1 := ⟨_, rfl⟩
  all_goals
    replace hIV := Lib.hid hIV
    go_enter Tryd.func57, Tryd.ntmps57
    go_wp2_with (go_at_call 82; refine (hidx.out _ _ (by simp)).mono ?_; rintro e w5 ⟨rfl, rfl⟩)
    go_upto_region 8 with (go_at_call 83; refine (hnum.out _).mono ?_; rintro e w6 ⟨rfl, hb6⟩; obtain ⟨B0, B1, bW⟩ := two_orders w 7 0 0 (bl_trans (bl_alloc (Below.refl _ _) _) hb6); obtain ⟨p0, p1, p2, p3⟩ := cells4 B0; obtain ⟨q0, q1, q2, q3⟩ := cells4 B1; obtain ⟨f0, f1, f2, f3⟩ := free4 B0; obtain ⟨g0, g1, g2, g3⟩ := free4 B1; have l3 := B0.lt; have l4 := B1.lt; replace B0 := Lib.hid B0; replace B1 := Lib.hid B1; clear hidx hnum c1 c2 hb6)
    go_cut [38] (fun s38 wx => s38 = .bool (decide (qe = 0 ∧ 2 < n)) ∧ w6 = wx)
    case first =>
      by_cases h1 : qe = 0
      · by_cases h2 : 2 < n
        · have h3 : decide ((2 : Int) < n) = true := by rw [decide_eq_true_eq]; omega
          have h4 : decide (qe = 0 ∧ 2 < n) = true := by rw [decide_eq_true_eq]; exact ⟨h1, h2⟩
          replace h4 := Lib.hid h4
          go_wp2_with fail
          go_meet
          exact ⟨by rw [h4.out], rfl⟩
        · have h3 : decide ((2 : Int) < n) = false := by rw [decide_eq_false_iff_not]; omega
          have h4 : decide (qe = 0 ∧ 2 < n) = false := by rw [decide_eq_false_iff_not]; exact fun h => h2 h.2
          replace h4 := Lib.hid h4
          go_wp2_with fail
          go_meet
          exact ⟨by rw [h4.out], rfl⟩
      · have h3 : (qe == 0) = false := by simpa using h1
        have h4 : decide (qe = 0 ∧ 2 < n) = false := by rw [decide_eq_false_iff_not]; exact fun h => h1 h.1
        replace h4 := Lib.hid h4
        go_wp2_with fail
        go_meet
        exact ⟨by rw [h4.out], rfl⟩
    case rest =>
      obtain ⟨rfl, rfl⟩ := hcut
      go_upto_if 38 with fail
      go_cut [7] (fun s7 wx => s7 = .int .i64 E ∧ w6 = wx)
      case first =>
        by_cases h1 : qe = 0 ∧ 2 < n
        · have h4 : decide (qe = 0 ∧ 2 < n) = true := by rw [decide_eq_true_eq]; exact h1
          have h5 := hE.out
          rw [if_pos h1] at h5
          replace h5 := Lib.hid h5
          rw [h4]
          clear h1 h4
          go_wp2_with fail
          go_meet
          exact ⟨by rw [h5.out], rfl⟩
        · have h4 : decide (qe = 0 ∧ 2 < n) = false := by rw [decide_eq_false_iff_not]; exact h1
          have h5 := hE.out
          rw [if_neg h1] at h5
          replace h5 := Lib.hid h5
          rw [h4]
          clear h1 h4
          go_wp2_with fail
          go_meet
          exact ⟨by rw [h5.out], rfl⟩
      case rest =>
        obtain ⟨rfl, rfl⟩ := hcut
        go_upto_region 10 with fail
        go_cut [39] (fun s39 wx => TwoO wx w.heap.size qn IV ∧ Below w.heap.size w wx)
        case first =>
          have hT : ∀ (W : World), W.heap.size = W.heap.size → True := fun _ _ => trivial
          clear hT hE hq hi e0 e1 e2 e5 e6 e7 hl1 l1 l2 hn hn2 hy
          go_region
          all_goals go_wp2_with fail
          all_goals go_meet
          all_goals exact ⟨⟨(((B0.out.set_other (p := ⟨w.heap.size + 1, 1, none⟩) (by simp) _).set_other (p := ⟨w.heap.size + 1, 2, none⟩) (by simp) _).alloc _).drew, by rw [hIV.out]; exact (((B1.out.set 1 _).set 2 _).alloc _).drew⟩, bl_drew (bl_alloc (bl_setCell (bl_setCell bW (by simp) _) (by simp) _) _)⟩
        case rest =>
          obtain ⟨⟨B0', B1'⟩, bW'⟩ := hcut
          rw [hIV.out] at B1'
          clear B0 B1 bW p0 p1 p2 p3 q0 q1 q2 q3 f0 f1 f2 f3 g0 g1 g2 g3
          obtain ⟨p0, p1, p2, p3⟩ := cells4 B0'
          obtain ⟨q0, q1, q2, q3⟩ := cells4 B1'
          obtain ⟨f0, f1, f2, f3⟩ := free4 B0'
          clear B0' B1'
          go_wp2_with fail
          refine bodyPost_ret (v := .tuple #[.agg #[.int .i64 7, .int .i64 qn, .int .i64 _, strV []], .int .i64 E]) ?_ rfl (OrdIs.mk rfl ?_)
          · simp [results, Tryd.results57, go_sem, p0, p1, p2, p3]
            try rfl
          · repeat (first | exact bW' | refine bl_setCell ?_ (by simp) _)
set_option maxHeartbeats 2000000 in
set_option maxRecDepth 100000 in
theorem breaks0 (la : Option Addr) (c : Nat) (w : World) :
    Calls Tryd.prog 57 #[.slice la 0 c] w (OrdIs (⟨7, 0, 0, []⟩, 9) w) := by
  go_enter Tryd.func57, Tryd.ntmps57
  go_wp2_with fail
  refine bodyPost_ret (v := .tuple #[.agg #[.int .i64 7, .int .i64 0, .int .i64 0, strV []], .int .i64 9]) (by simp [results, Tryd.results57, go_sem]) rfl (OrdIs.mk rfl ?_)
  repeat (first | exact Below.refl _ _ | refine bl_alloc ?_ _ | refine bl_setCell ?_ (by simp) _)
set_option maxHeartbeats 2000000 in
set_option maxRecDepth 100000 in
theorem breaks1 (b o n c : Nat) (x : List UInt8) (i : Int) (hi : OM.idx [OM.cmdW, OM.lineW] x = i) (hi0 : i = -1 ∨ (i = 0 ∨ i = 1) ∧ n = 1) (w : World) (hn1 : 1 ≤ n) (hn : n ≤ 1000000) (c1 : w.cell? ⟨b, o, none⟩ = some (strV x)) :
    Calls Tryd.prog 57 #[.slice (some ⟨b, o, none⟩) n c] w (OrdIs (⟨7, 0, 0, []⟩, 9) w) := by
  have hl1 : b < w.heap.size := World.block_lt_of_cell? w _ c1
  have hidx := fun (W : World) (g : Nat) (hg : g = W.heap.size) => (by
    subst hg
    exact index_any (some ⟨W.heap.size, 0, none⟩) 2 [OM.cmdW, OM.lineW] x (W.alloc (.cells ([OM.cmdW, OM.lineW].map strV).toArray 9)) (by simp) (StrAt.lit W _ _) :
    Calls Tryd.prog 82 #[.slice (some ⟨g, 0, none⟩) 2 2, strV x] (W.alloc (.cells #[.string ⟨#[99, 109, 100]⟩, .string ⟨#[108, 105, 110, 101]⟩] 9)) fun e w' => e = .returned (.int .i64 (OM.idx [OM.cmdW, OM.lineW] x)) ∧ (W.alloc (.cells #[.string ⟨#[99, 109, 100]⟩, .string ⟨#[108, 105, 110, 101]⟩] 9)) = w')
  rw [hi] at hidx
  have e0 : decide ((0 : Int) < n) = true := by rw [decide_eq_true_eq]; omega
  have e5 : (0 : Int) < n := by omega
  have e6 : 0 < n := by omega
  have l1 : b < w.heap.size + 1 := by omega
  have l2 : b < w.heap.size + 1 + 1 := by omega
  replace hi := Lib.hid hi
  replace hidx := Lib.hid hidx
  rcases hi0 with rfl | ⟨rfl | rfl, rfl⟩
  all_goals
    go_enter Tryd.func57, Tryd.ntmps57
    go_wp2_with (go_at_call 82; refine (hidx.out _ _ (by simp)).mono ?_; rintro e w5 ⟨rfl, rfl⟩)
    refine bodyPost_ret (v := .tuple #[.agg #[.int .i64 7, .int .i64 0, .int .i64 0, strV []], .int .i64 9]) (by simp [results, Tryd.results57, go_sem]) rfl (OrdIs.mk rfl ?_)
    repeat (first | exact Below.refl _ _ | refine bl_alloc ?_ _ | refine bl_setCell ?_ (by simp) _)
theorem breaks_any (a : Option Addr) (c : Nat) (xs : List (List UInt8)) (w : World) (hl : xs.length ≤ 1000000) (hx : ∀ i (h : i < xs.length), xs[i].length ≤ 1000000) (h : StrAt (fun _ => True) w a xs) :
    Calls Tryd.prog 57 #[.slice a xs.length c] w (OrdIs (OM.breaks xs) w) := by
  cases xs with
  | nil => exact breaks0 a c w
  | cons x r =>
    obtain ⟨b, o, rfl, c1⟩ := h.nth (i := 0) (by simp)
    simp only [List.getElem_cons_zero, Nat.add_zero] at c1
    have hcase : (x = OM.cmdW ∨ x = OM.lineW) ∨ (x ≠ OM.cmdW ∧ x ≠ OM.lineW) := by
      by_cases h1 : x = OM.cmdW
      · exact .inl (.inl h1)
      · by_cases h2 : x = OM.lineW
        · exact .inl (.inr h2)
        · exact .inr ⟨h1, h2⟩
    cases r with
    | nil =>
      have e : OM.breaks [x] = (⟨7, 0, 0, []⟩, 9) := rfl
      rw [e]
      rcases hcase with h1 | ⟨h1, h2⟩
      · refine breaks1 b o 1 c x (OM.idx [OM.cmdW, OM.lineW] x) rfl (.inr ⟨?_, rfl⟩) w (by omega) (by omega) c1
        rcases h1 with rfl | rfl
        · exact .inl idx_cmd
        · exact .inr idx_line
      · exact breaks1 b o 1 c x (-1) (idx_none h1 h2) (.inl rfl) w (by omega) (by omega) c1
    | cons y q =>
      obtain ⟨b', o', e', c2⟩ := h.nth (i := 1) (by simp)
      obtain ⟨rfl, rfl⟩ : b = b' ∧ o = o' := by injection e' with e'; injection e' with e1 e2; exact ⟨e1, e2⟩
      simp only [List.getElem_cons_succ, List.getElem_cons_zero] at c2
      have hy : y.length ≤ 1000000 := hx 1 (by simp)
      rcases hcase with h1 | ⟨h1, h2⟩
      · have e : OM.breaks (x :: y :: q) = (⟨7, (OM.num y).1, OM.idx [OM.cmdW, OM.lineW] x, []⟩, if (OM.num y).2 = 0 ∧ 2 < (x :: y :: q).length then 9 else (OM.num y).2) := by
          rcases h1 with rfl | rfl
          · rw [idx_cmd]; cases q <;> simp [OM.breaks, show ¬ OM.cmdW = OM.lineW by decide]
          · rw [idx_line]; cases q <;> simp [OM.breaks]
        rw [e]
        refine breaksN b o (x :: y :: q).length c x y _ rfl ?_ w (by simp) hl hy c1 c2
        rcases h1 with rfl | rfl
        · exact .inl idx_cmd
        · exact .inr idx_line
      · have e : OM.breaks (x :: y :: q) = (⟨7, 0, 0, []⟩, 9) := by simp [OM.breaks, h1, h2]
        rw [e]
        exact breaks1 b o (x :: y :: q).length c x (-1) (idx_none h1 h2) (.inl rfl) w (by simp) hl c1
end Go.Proofs.YtjfpepinmbbnbaaDoor
