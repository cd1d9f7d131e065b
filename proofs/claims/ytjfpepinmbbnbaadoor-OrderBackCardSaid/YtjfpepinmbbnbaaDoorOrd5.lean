/-
  The contract of list, of chapter 29.
  Conditions: as each theorem states them.
-/
import Derived.Test.YtjfpepinmbbnbaaDoorOrd4
import Derived.LoopN
namespace Go.Proofs.YtjfpepinmbbnbaaDoor
open Go.RowKit
set_option linter.unusedVariables false
set_option linter.unusedSimpArgs false
/-- the two orders of list, and the row of pointers into the one -/
theorem three_orders (w : World) {w6 : World} (hb : Below (((w.alloc zeroO).alloc (kindO 13 0 200)).alloc (.cells #[.pointer (some ⟨w.heap.size + 1, 1, none⟩), .pointer (some ⟨w.heap.size + 1, 2, none⟩)] 123)).heap.size (((w.alloc zeroO).alloc (kindO 13 0 200)).alloc (.cells #[.pointer (some ⟨w.heap.size + 1, 1, none⟩), .pointer (some ⟨w.heap.size + 1, 2, none⟩)] 123)) w6) :
    Blk w6 w.heap.size 41 [.int .i64 0, .int .i64 0, .int .i64 0, .string ⟨#[]⟩] ∧ Blk w6 (w.heap.size + 1) 41 [.int .i64 13, .int .i64 0, .int .i64 200, .string ⟨#[]⟩] ∧ Blk w6 (w.heap.size + 1 + 1) 123 [.pointer (some ⟨w.heap.size + 1, 1, none⟩), .pointer (some ⟨w.heap.size + 1, 2, none⟩)] ∧ Below w.heap.size w w6 := by
  obtain ⟨h1, h2, h3⟩ := two_orders w 13 0 200 (bl_trans (bl_alloc (Below.refl _ _) _) hb)
  refine ⟨h1, h2, ?_, h3⟩
  have := Blk.new ((w.alloc zeroO).alloc (kindO 13 0 200)) 123 [.pointer (some ⟨w.heap.size + 1, 1, none⟩), .pointer (some ⟨w.heap.size + 1, 2, none⟩)]
  rw [World.size_alloc, World.size_alloc] at this
  exact this.below hb
theorem cells2 {w : World} {b : Nat} {t : TypeId} {x y : Value} (h : Blk w b t [x, y]) : w.cell? ⟨b, 0, none⟩ = some x ∧ w.cell? ⟨b, 1, none⟩ = some y := ⟨h.cell 0, h.cell 1⟩
set_option maxHeartbeats 2000000 in
set_option maxRecDepth 100000 in
theorem list0 (la : Option Addr) (c : Nat) (w : World) :
    Calls Tryd.prog 58 #[.slice la 0 c] w (OrdIs (⟨13, 0, 200, []⟩, 0) w) := by
  go_enter Tryd.func58, Tryd.ntmps58
  go_wp2_with fail
  refine wp_loop_rounds 1 ?_
  rw [rounds_succ]
  go_wp2_with fail
  refine bodyPost_ret (v := .tuple #[.agg #[.int .i64 13, .int .i64 0, .int .i64 200, strV []], .int .i64 0]) (by simp [results, Tryd.results58, go_sem]) rfl (OrdIs.mk rfl ?_)
  repeat (first | exact Below.refl _ _ | refine bl_alloc ?_ _ | refine bl_setCell ?_ (by simp) _)
set_option maxHeartbeats 2000000 in
set_option maxRecDepth 100000 in
theorem list1 (b o n c : Nat) (x : List UInt8) (xn xe : Int) (hq : OM.num x = (xn, xe)) (he : xe ≠ 0) (w : World) (hn1 : 1 ≤ n) (hn : n ≤ 1000000) (hx : x.length ≤ 1000000) (c1 : w.cell? ⟨b, o, none⟩ = some (strV x)) :
    Calls Tryd.prog 58 #[.slice (some ⟨b, o, none⟩) n c] w (OrdIs (⟨13, 0, 200, []⟩, xe) w) := by
  have hl1 : b < w.heap.size := World.block_lt_of_cell? w _ c1
  have hnum := fun (W : World) => number_any x W hx
  rw [hq] at hnum
  replace hnum := Lib.hid hnum
  have e0 : ((0 : Int) == n) = false := by simp; omega
  have e5 : (0 : Int) < n := by omega
  have e6 : 0 < n := by omega
  have e7 : (xe != 0) = true := by simpa using he
  have l1 : b < w.heap.size + 1 := by omega
  have l2 : b < w.heap.size + 1 + 1 := by omega
  clear he hq
  go_enter Tryd.func58, Tryd.ntmps58
  go_wp2_with fail
  refine wp_loop_rounds 1 ?_
  rw [rounds_succ]
  go_wp2_with (go_at_call 83; refine (hnum.out _).mono ?_; rintro e w6 ⟨rfl, hb6⟩; obtain ⟨B0, B1, B2, bW⟩ := three_orders w hb6; obtain ⟨p0, p1, p2, p3⟩ := cells4 B0; obtain ⟨q0, q1, q2, q3⟩ := cells4 B1; obtain ⟨f0, f1, f2, f3⟩ := free4 B0; replace B0 := Lib.hid B0; replace B1 := Lib.hid B1; replace B2 := Lib.hid B2; clear hnum c1 hb6)
  refine bodyPost_ret (v := .tuple #[.agg #[.int .i64 13, .int .i64 0, .int .i64 200, strV []], .int .i64 xe]) ?_ rfl (OrdIs.mk rfl ?_)
  · simp [results, Tryd.results58, go_sem, p0, p1, p2, p3]
  · repeat (first | exact bW | refine bl_setCell ?_ (by simp) _)
set_option maxHeartbeats 2000000 in
set_option maxRecDepth 100000 in
theorem list2 (b o c : Nat) (x : List UInt8) (xn : Int) (hq : OM.num x = (xn, 0)) (w : World) (hx : x.length ≤ 1000000) (c1 : w.cell? ⟨b, o, none⟩ = some (strV x)) :
    Calls Tryd.prog 58 #[.slice (some ⟨b, o, none⟩) 1 c] w (OrdIs (⟨13, xn, 200, []⟩, 0) w) := by
  have hl1 : b < w.heap.size := World.block_lt_of_cell? w _ c1
  have hnum := fun (W : World) => number_any x W hx
  rw [hq] at hnum
  replace hnum := Lib.hid hnum
  have l1 : b < w.heap.size + 1 := by omega
  have l2 : b < w.heap.size + 1 + 1 := by omega
  clear hq
  go_enter Tryd.func58, Tryd.ntmps58
  go_wp2_with fail
  refine wp_loop_rounds 2 ?_
  rw [rounds_succ]
  go_wp2_with (go_at_call 83; refine (hnum.out _).mono ?_; rintro e w6 ⟨rfl, hb6⟩; obtain ⟨B0, B1, B2, bW⟩ := three_orders w hb6; obtain ⟨p0, p1, p2, p3⟩ := cells4 B0; obtain ⟨q0, q1, q2, q3⟩ := cells4 B1; obtain ⟨r0, r1⟩ := cells2 B2; obtain ⟨f0, f1, f2, f3⟩ := free4 B0; obtain ⟨g0, g1, g2, g3⟩ := free4 B1; replace B0 := Lib.hid B0; replace B1 := Lib.hid B1; replace B2 := Lib.hid B2; clear hnum c1 hb6)
  rw [rounds_succ]
  go_wp2_with fail
  refine bodyPost_ret (v := .tuple #[.agg #[.int .i64 13, .int .i64 xn, .int .i64 200, strV []], .int .i64 0]) ?_ rfl (OrdIs.mk rfl ?_)
  · simp [results, Tryd.results58, go_sem, p0, p1, p2, p3]
  · repeat (first | exact bW | refine bl_setCell ?_ (by simp) _)
set_option maxHeartbeats 4000000 in
set_option maxRecDepth 100000 in
theorem list3 (b o n c : Nat) (x y : List UInt8) (xn yn ye E : Int) (M : Int) (hq : OM.num x = (xn, 0)) (hq2 : OM.num y = (yn, ye)) (hE : (ye ≠ 0 ∧ E = ye ∧ M = 200) ∨ (ye = 0 ∧ n = 2 ∧ E = 0 ∧ M = yn) ∨ (ye = 0 ∧ 2 < n ∧ E = 9 ∧ M = yn)) (w : World) (hn2 : 2 ≤ n) (hn : n ≤ 1000000) (hx : x.length ≤ 1000000) (hy : y.length ≤ 1000000)
    (c1 : w.cell? ⟨b, o, none⟩ = some (strV x)) (c2 : w.cell? ⟨b, o + 1, none⟩ = some (strV y)) :
    Calls Tryd.prog 58 #[.slice (some ⟨b, o, none⟩) n c] w (OrdIs (⟨13, xn, M, []⟩, E) w) := by
  have hl1 : b < w.heap.size := World.block_lt_of_cell? w _ c1
  have hnx := fun (W : World) => number_any x W hx
  have hny := fun (W : World) => number_any y W hy
  rw [hq] at hnx
  rw [hq2] at hny
  replace hnx := Lib.hid hnx
  replace hny := Lib.hid hny
  have e0 : ((0 : Int) == n) = false := by simp; omega
  have e1 : ((1 : Int) == n) = false := by simp; omega
  have e5 : (0 : Int) < n := by omega
  have e6 : 0 < n := by omega
  have e8 : (1 : Int) < n := by omega
  have e9 : 1 < n := by omega
  have l1 : b < w.heap.size + 1 := by omega
  have l2 : b < w.heap.size + 1 + 1 := by omega
  have kk := Lib.hid (fun (W' : World) (hb : Below w.heap.size w W') => (hb.cell (p := ⟨b, o + 1, none⟩) hl1).trans c2)
  clear hq hq2
  rcases hE with ⟨h1, rfl, rfl⟩ | ⟨rfl, rfl, rfl, rfl⟩ | ⟨rfl, h2, rfl, rfl⟩
  case' inl => have e7 : (E != 0) = true := by simpa using h1
  case' inr.inr => have e7 : decide ((2 : Int) < n) = true := by rw [decide_eq_true_eq]; omega
  all_goals
    go_enter Tryd.func58, Tryd.ntmps58
    go_wp2_with fail
    refine wp_loop_rounds 3 ?_
    rw [rounds_succ]
    go_wp2_with (go_at_call 83; ((with_reducible refine (hnx.out _).mono ?_); rintro e w6 ⟨rfl, hb6⟩; obtain ⟨B0, B1, B2, bW⟩ := three_orders w hb6; obtain ⟨q0, q1, q2, q3⟩ := cells4 B1; obtain ⟨r0, r1⟩ := cells2 B2; obtain ⟨g0, g1, g2, g3⟩ := free4 B1; have k2 := kk.out _ bW; replace B0 := Lib.hid B0; replace B1 := Lib.hid B1; replace B2 := Lib.hid B2; clear hnx c1 c2 hb6))
    have C0 := B0.out.set_other (p := ⟨w.heap.size + 1, 1, none⟩) (by simp) (.int .i64 xn)
    have C1 := B1.out.set 1 (.int .i64 xn)
    have C2 := B2.out.set_other (p := ⟨w.heap.size + 1, 1, none⟩) (by simp) (.int .i64 xn)
    have cW := bl_setCell bW (p := ⟨w.heap.size + 1, 1, none⟩) (by simp) (.int .i64 xn)
    simp only [List.set_cons_succ, List.set_cons_zero] at C1
    replace C0 := Lib.hid C0
    replace C1 := Lib.hid C1
    replace C2 := Lib.hid C2
    rw [rounds_succ]
    go_wp2_with (go_at_call 83; refine (hny.out _).mono ?_; rintro e w7 ⟨rfl, hb7⟩; have D0 := C0.out.below hb7; have D1 := C1.out.below hb7; have D2 := C2.out.below hb7; have dW := bl_trans cW hb7; clear B0 B1 B2 q0 q1 q2 q3 r0 r1 g0 g1 g2 g3 k2 hb7 C0 C1 C2; obtain ⟨p0, p1, p2, p3⟩ := cells4 D0; obtain ⟨q0, q1, q2, q3⟩ := cells4 D1; obtain ⟨r0, r1⟩ := cells2 D2; obtain ⟨f0, f1, f2, f3⟩ := free4 D0; obtain ⟨g0, g1, g2, g3⟩ := free4 D1; replace D0 := Lib.hid D0; replace D1 := Lib.hid D1; replace D2 := Lib.hid D2; clear hny)
    try (rw [rounds_succ]; go_wp2_with fail)
    refine bodyPost_ret (v := .tuple #[.agg #[.int .i64 13, .int .i64 xn, .int .i64 _, strV []], .int .i64 _]) ?_ rfl (OrdIs.mk rfl ?_)
    · simp [results, Tryd.results58, go_sem, p0, p1, p2, p3]
      try (exact ⟨rfl, rfl⟩)
      try rfl
    · repeat (first | exact dW | refine bl_setCell ?_ (by simp) _)
theorem list_any (a : Option Addr) (c : Nat) (xs : List (List UInt8)) (w : World) (hl : xs.length ≤ 1000000) (hx : ∀ i (h : i < xs.length), xs[i].length ≤ 1000000) (h : StrAt (fun _ => True) w a xs) :
    Calls Tryd.prog 58 #[.slice a xs.length c] w (OrdIs (OM.list xs) w) := by
  cases xs with
  | nil => exact list0 a c w
  | cons x r =>
    obtain ⟨b, o, rfl, c1⟩ := h.nth (i := 0) (by simp)
    simp only [List.getElem_cons_zero, Nat.add_zero] at c1
    have hx0 : x.length ≤ 1000000 := hx 0 (by simp)
    rcases hq : OM.num x with ⟨xn, xe⟩
    by_cases he : xe = 0
    · subst he
      cases r with
      | nil =>
        have e : OM.list [x] = (⟨13, xn, 200, []⟩, 0) := by simp [OM.list, hq]
        rw [e]
        exact list2 b o c x xn hq w hx0 c1
      | cons y q =>
        obtain ⟨b', o', e', c2⟩ := h.nth (i := 1) (by simp)
        obtain ⟨rfl, rfl⟩ : b = b' ∧ o = o' := by injection e' with e'; injection e' with e1 e2; exact ⟨e1, e2⟩
        simp only [List.getElem_cons_succ, List.getElem_cons_zero] at c2
        have hy : y.length ≤ 1000000 := hx 1 (by simp)
        rcases hq2 : OM.num y with ⟨yn, ye⟩
        by_cases hye : ye = 0
        · subst hye
          cases q with
          | nil =>
            have e : OM.list [x, y] = (⟨13, xn, yn, []⟩, 0) := by simp [OM.list, hq, hq2]
            rw [e]
            exact list3 b o 2 c x y xn yn 0 0 yn hq hq2 (.inr (.inl ⟨rfl, rfl, rfl, rfl⟩)) w (by omega) (by omega) hx0 hy c1 c2
          | cons z q =>
            have e : OM.list (x :: y :: z :: q) = (⟨13, xn, yn, []⟩, 9) := by simp [OM.list, hq, hq2]
            rw [e]
            exact list3 b o _ c x y xn yn 0 9 yn hq hq2 (.inr (.inr ⟨rfl, by simp, rfl, rfl⟩)) w (by simp) hl hx0 hy c1 c2
        · have e : OM.list (x :: y :: q) = (⟨13, xn, 200, []⟩, ye) := by simp [OM.list, hq, hq2, hye]
          rw [e]
          exact list3 b o _ c x y xn yn ye ye 200 hq hq2 (.inl ⟨hye, rfl, rfl⟩) w (by simp) hl hx0 hy c1 c2
    · have e : OM.list (x :: r) = (⟨13, 0, 200, []⟩, xe) := by simp [OM.list, hq, he]
      rw [e]
      exact list1 b o _ c x xn xe hq he w (by simp) hl hx0 c1
end Go.Proofs.YtjfpepinmbbnbaaDoor
