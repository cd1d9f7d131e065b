/-
  The contract of a rule's reader, of chapter 29.
  Conditions: as each theorem states them.
-/
import Derived.Test.YtjfpepinmbbnbaaDoorOrd4
namespace Go.Proofs.YtjfpepinmbbnbaaDoor
open Go.RowKit
set_option linter.unusedVariables false
set_option linter.unusedSimpArgs false
abbrev ruleO (k : Int) (a b c : Bool) : Obj := .cells #[.int .i64 k, .bool a, .bool b, .bool c] 90
theorem read_orders (w : World) (k N0 : Int) (a b c : Bool) {w6 : World} (hb : Below (((w.alloc (ruleO k a b c)).alloc zeroO).alloc (kindO k N0 0)).heap.size (((w.alloc (ruleO k a b c)).alloc zeroO).alloc (kindO k N0 0)) w6) :
    Blk w6 w.heap.size 90 [.int .i64 k, .bool a, .bool b, .bool c] ∧ Blk w6 (w.heap.size + 1) 41 [.int .i64 0, .int .i64 0, .int .i64 0, .string ⟨#[]⟩] ∧ Blk w6 (w.heap.size + 1 + 1) 41 [.int .i64 k, .int .i64 N0, .int .i64 0, .string ⟨#[]⟩] ∧ Below w.heap.size w w6 := by
  obtain ⟨h1, h2, h3⟩ := two_orders (w.alloc (ruleO k a b c)) k N0 0 hb
  rw [World.size_alloc] at h1 h2
  have B := (((Blk.new w 90 [.int .i64 k, .bool a, .bool b, .bool c]).alloc zeroO).alloc (kindO k N0 0)).below hb
  exact ⟨B, h1, h2, bl_trans (bl_alloc (Below.refl _ _) _) h3⟩
set_option maxHeartbeats 2000000 in
set_option maxRecDepth 100000 in
theorem readA (k : Int) (la : Option Addr) (n c : Nat) (E : Int) (hE : (n = 0 ∧ E = 0) ∨ (1 ≤ n ∧ E = 9)) (w : World) (hn : n ≤ 1000000) :
    Calls Tryd.prog 60 #[.agg #[.int .i64 k, .bool false, .bool false, .bool false], .slice la n c] w (OrdIs (⟨k, 0, 0, []⟩, E) w) := by
  rcases hE with ⟨rfl, rfl⟩ | ⟨h1, rfl⟩
  · go_enter Tryd.func60, Tryd.ntmps60
    go_wp2_with fail
    refine bodyPost_ret (v := .tuple #[.agg #[.int .i64 k, .int .i64 0, .int .i64 0, strV []], .int .i64 0]) (by simp [results, Tryd.results60, go_sem]) rfl (OrdIs.mk rfl ?_)
    repeat (first | exact Below.refl _ _ | refine bl_alloc ?_ _ | refine bl_setCell ?_ (by first | (simp; done) | (simp; omega)) _)
  · have e0 : decide ((0 : Int) < n) = true := by rw [decide_eq_true_eq]; omega
    go_enter Tryd.func60, Tryd.ntmps60
    go_wp2_with fail
    refine bodyPost_ret (v := .tuple #[.agg #[.int .i64 k, .int .i64 0, .int .i64 0, strV []], .int .i64 9]) (by simp [results, Tryd.results60, go_sem]) rfl (OrdIs.mk rfl ?_)
    repeat (first | exact Below.refl _ _ | refine bl_alloc ?_ _ | refine bl_setCell ?_ (by first | (simp; done) | (simp; omega)) _)
set_option maxHeartbeats 2000000 in
set_option maxRecDepth 100000 in
theorem read0 (k : Int) (la : Option Addr) (c : Nat) (m : Bool) (N E : Int) (hE : (m = false ∧ N = 0 ∧ E = 9) ∨ (m = true ∧ N = 1 ∧ E = 0)) (w : World) :
    Calls Tryd.prog 60 #[.agg #[.int .i64 k, .bool true, .bool m, .bool m], .slice la 0 c] w (OrdIs (⟨k, N, 0, []⟩, E) w) := by
  rcases hE with ⟨rfl, rfl, rfl⟩ | ⟨rfl, rfl, rfl⟩
  · go_enter Tryd.func60, Tryd.ntmps60
    go_wp2_with fail
    refine bodyPost_ret (v := .tuple #[.agg #[.int .i64 k, .int .i64 0, .int .i64 0, strV []], .int .i64 9]) (by simp [results, Tryd.results60, go_sem]) rfl (OrdIs.mk rfl ?_)
    repeat (first | exact Below.refl _ _ | refine bl_alloc ?_ _ | refine bl_setCell ?_ (by first | (simp; done) | (simp; omega)) _)
  · go_enter Tryd.func60, Tryd.ntmps60
    go_wp2_with fail
    refine bodyPost_ret (v := .tuple #[.agg #[.int .i64 k, .int .i64 1, .int .i64 0, strV []], .int .i64 0]) (by simp [results, Tryd.results60, go_sem]) rfl (OrdIs.mk rfl ?_)
    repeat (first | exact Below.refl _ _ | refine bl_alloc ?_ _ | refine bl_setCell ?_ (by first | (simp; done) | (simp; omega)) _)
set_option maxHeartbeats 4000000 in
set_option maxRecDepth 100000 in
theorem readE (k : Int) (b o n c : Nat) (m : Bool) (x : List UInt8) (xn xe N E : Int) (hq : OM.num x = (xn, xe)) (hE : (m = false ∧ N = 0 ∧ xe ≠ 0 ∧ E = xe) ∨ (m = true ∧ N = 1 ∧ xe ≠ 0 ∧ E = xe) ∨ (m = true ∧ N = 1 ∧ xe = 0 ∧ xn < 1 ∧ E = 3) ∨ (m = true ∧ N = 1 ∧ xe = 0 ∧ 100000 < xn ∧ E = 3)) (w : World) (hn1 : 1 ≤ n) (hn : n ≤ 1000000) (hx : x.length ≤ 1000000)
    (c1 : w.cell? ⟨b, o, none⟩ = some (strV x)) :
    Calls Tryd.prog 60 #[.agg #[.int .i64 k, .bool true, .bool m, .bool m], .slice (some ⟨b, o, none⟩) n c] w (OrdIs (⟨k, N, 0, []⟩, E) w) := by
  have hl1 : b < w.heap.size := World.block_lt_of_cell? w _ c1
  have hnum := fun (W : World) => number_any x W hx
  rw [hq] at hnum
  have e0 : decide ((0 : Int) < n) = true := by rw [decide_eq_true_eq]; omega
  have e5 : (0 : Int) < n := by omega
  have e6 : 0 < n := by omega
  have l1 : b < w.heap.size + 1 := by omega
  have l2 : b < w.heap.size + 1 + 1 := by omega
  clear hq
  rcases hE with ⟨rfl, rfl, h1, rfl⟩ | ⟨rfl, rfl, h1, rfl⟩ | ⟨rfl, rfl, rfl, h1, rfl⟩ | ⟨rfl, rfl, rfl, h1, rfl⟩
  case' inl => have e7 : (E != 0) = true := by simpa using h1
  case' inl => have e8 : (E == 0) = false := by simpa using h1
  case' inr.inl => have e7 : (E != 0) = true := by simpa using h1
  case' inr.inl => have e8 : (E == 0) = false := by simpa using h1
  case' inr.inr.inl => have e7 : decide (xn < 1) = true := by simpa using h1
  case' inr.inr.inr => have e7 : decide (xn < 1) = false := by rw [decide_eq_false_iff_not]; omega
  case' inr.inr.inr => have e8 : decide (100000 < xn) = true := by simpa using h1
  all_goals
    replace hnum := Lib.hid hnum
    go_enter Tryd.func60, Tryd.ntmps60
    go_wp2_with (go_at_call 83; refine (hnum.out _).mono ?_; rintro e w6 ⟨rfl, hb6⟩; obtain ⟨B0, B1, B2, bW⟩ := read_orders w _ _ _ _ _ hb6; obtain ⟨p0, p1, p2, p3⟩ := cells4 B0; obtain ⟨q0, q1, q2, q3⟩ := cells4 B1; obtain ⟨r0, r1, r2, r3⟩ := cells4 B2; obtain ⟨f0, f1, f2, f3⟩ := free4 B1; replace B0 := Lib.hid B0; replace B1 := Lib.hid B1; replace B2 := Lib.hid B2; clear hnum c1 hb6)
    refine bodyPost_ret (v := .tuple #[.agg #[.int .i64 k, .int .i64 _, .int .i64 0, strV []], .int .i64 _]) ?_ rfl (OrdIs.mk rfl ?_)
    · simp [results, Tryd.results60, go_sem, q0, q1, q2, q3]
      try (exact ⟨rfl, rfl⟩)
      try rfl
    · repeat (first | exact bW | refine bl_setCell ?_ (by first | (simp; done) | (simp; omega)) _)
set_option maxHeartbeats 4000000 in
set_option maxRecDepth 100000 in
theorem readN (k : Int) (b o n c : Nat) (m : Bool) (x : List UInt8) (xn E : Int) (hq : OM.num x = (xn, 0)) (hm : m = false ∨ m = true ∧ 1 ≤ xn ∧ xn ≤ 100000) (hE : (n = 1 ∧ E = 0) ∨ (2 ≤ n ∧ E = 9)) (w : World) (hn1 : 1 ≤ n) (hn : n ≤ 1000000) (hx : x.length ≤ 1000000)
    (c1 : w.cell? ⟨b, o, none⟩ = some (strV x)) :
    Calls Tryd.prog 60 #[.agg #[.int .i64 k, .bool true, .bool m, .bool m], .slice (some ⟨b, o, none⟩) n c] w (OrdIs (⟨k, xn, 0, []⟩, E) w) := by
  have hl1 : b < w.heap.size := World.block_lt_of_cell? w _ c1
  have hnum := fun (W : World) => number_any x W hx
  rw [hq] at hnum
  have e0 : decide ((0 : Int) < n) = true := by rw [decide_eq_true_eq]; omega
  have e5 : (0 : Int) < n := by omega
  have e6 : 0 < n := by omega
  have e9 : ((n : Int) == 0) = false := by simp; omega
  have l1 : b < w.heap.size + 1 := by omega
  have l2 : b < w.heap.size + 1 + 1 := by omega
  clear hq
  rcases hE with ⟨rfl, rfl⟩ | ⟨h2, rfl⟩
  case' inr => have e1 : decide ((1 : Int) < n) = true := by rw [decide_eq_true_eq]; omega
  all_goals
    replace hnum := Lib.hid hnum
    rcases hm with rfl | ⟨rfl, h3, h4⟩
    case' inr => have e7 : decide (xn < 1) = false := by rw [decide_eq_false_iff_not]; omega
    case' inr => have e8 : decide (100000 < xn) = false := by rw [decide_eq_false_iff_not]; omega
    all_goals
      go_enter Tryd.func60, Tryd.ntmps60
      go_wp2_with (go_at_call 83; refine (hnum.out _).mono ?_; rintro e w6 ⟨rfl, hb6⟩; obtain ⟨B0, B1, B2, bW⟩ := read_orders w _ _ _ _ _ hb6; obtain ⟨p0, p1, p2, p3⟩ := cells4 B0; obtain ⟨q0, q1, q2, q3⟩ := cells4 B1; obtain ⟨r0, r1, r2, r3⟩ := cells4 B2; obtain ⟨f0, f1, f2, f3⟩ := free4 B1; obtain ⟨g0, g1, g2, g3⟩ := free4 B2; replace B0 := Lib.hid B0; replace B1 := Lib.hid B1; replace B2 := Lib.hid B2; clear hnum c1 hb6)
      refine bodyPost_ret (v := .tuple #[.agg #[.int .i64 k, .int .i64 xn, .int .i64 0, strV []], .int .i64 _]) ?_ rfl (OrdIs.mk rfl ?_)
      · simp [results, Tryd.results60, go_sem, q0, q1, q2, q3]
        try (exact ⟨rfl, rfl⟩)
        try rfl
      · repeat (first | exact bW | refine bl_setCell ?_ (by first | (simp; done) | (simp; omega)) _)
/-- the rules' three kinds of marks -/
def RuleOk (r : Int × Bool × Bool × Bool) : Prop := r.2 = (false, false, false) ∨ r.2 = (true, false, false) ∨ r.2 = (true, true, true)
theorem read_any (r : Int × Bool × Bool × Bool) (hr : RuleOk r) (a : Option Addr) (c : Nat) (xs : List (List UInt8)) (w : World) (hl : xs.length ≤ 1000000) (hx : ∀ i (h : i < xs.length), xs[i].length ≤ 1000000) (h : StrAt (fun _ => True) w a xs) :
    Calls Tryd.prog 60 #[.agg #[.int .i64 r.1, .bool r.2.1, .bool r.2.2.1, .bool r.2.2.2], .slice a xs.length c] w (OrdIs (OM.read r xs) w) := by
  obtain ⟨k, r2⟩ := r
  rcases hr with rfl | rfl | rfl
  · cases xs with
    | nil => exact readA k a 0 c 0 (.inl ⟨rfl, rfl⟩) w (by omega)
    | cons x q => exact readA k a _ c 9 (.inr ⟨by simp, rfl⟩) w hl
  · cases xs with
    | nil => exact read0 k a c false 0 9 (.inl ⟨rfl, rfl, rfl⟩) w
    | cons x q =>
      obtain ⟨b, o, rfl, c1⟩ := h.nth (i := 0) (by simp)
      simp only [List.getElem_cons_zero, Nat.add_zero] at c1
      have hx0 : x.length ≤ 1000000 := hx 0 (by simp)
      rcases hq : OM.num x with ⟨xn, xe⟩
      by_cases he : xe = 0
      · subst he
        have e : OM.read (k, true, false, false) (x :: q) = (⟨k, xn, 0, []⟩, if q = [] then 0 else 9) := by simp [OM.read, hq]
        rw [e]
        refine readN k b o _ c false x xn _ hq (.inl rfl) ?_ w (by simp) hl hx0 c1
        cases q with
        | nil => exact .inl ⟨rfl, rfl⟩
        | cons y q => exact .inr ⟨by simp, by simp⟩
      · have e : OM.read (k, true, false, false) (x :: q) = (⟨k, 0, 0, []⟩, xe) := by simp [OM.read, hq, he]
        rw [e]
        exact readE k b o _ c false x xn xe 0 xe hq (.inl ⟨rfl, rfl, he, rfl⟩) w (by simp) hl hx0 c1
  · cases xs with
    | nil => exact read0 k a c true 1 0 (.inr ⟨rfl, rfl, rfl⟩) w
    | cons x q =>
      obtain ⟨b, o, rfl, c1⟩ := h.nth (i := 0) (by simp)
      simp only [List.getElem_cons_zero, Nat.add_zero] at c1
      have hx0 : x.length ≤ 1000000 := hx 0 (by simp)
      rcases hq : OM.num x with ⟨xn, xe⟩
      by_cases he : xe = 0
      · subst he
        by_cases h1 : xn < 1
        · have e : OM.read (k, true, true, true) (x :: q) = (⟨k, 1, 0, []⟩, 3) := by simp [OM.read, hq, h1]
          rw [e]
          exact readE k b o _ c true x xn 0 1 3 hq (.inr (.inr (.inl ⟨rfl, rfl, rfl, h1, rfl⟩))) w (by simp) hl hx0 c1
        · by_cases h2 : 100000 < xn
          · have e : OM.read (k, true, true, true) (x :: q) = (⟨k, 1, 0, []⟩, 3) := by simp [OM.read, hq, h2]
            rw [e]
            exact readE k b o _ c true x xn 0 1 3 hq (.inr (.inr (.inr ⟨rfl, rfl, rfl, h2, rfl⟩))) w (by simp) hl hx0 c1
          · have e : OM.read (k, true, true, true) (x :: q) = (⟨k, xn, 0, []⟩, if q = [] then 0 else 9) := by simp [OM.read, hq, h1, h2]
            rw [e]
            refine readN k b o _ c true x xn _ hq (.inr ⟨rfl, by omega, by omega⟩) ?_ w (by simp) hl hx0 c1
            cases q with
            | nil => exact .inl ⟨rfl, rfl⟩
            | cons y q => exact .inr ⟨by simp, by simp⟩
      · have e : OM.read (k, true, true, true) (x :: q) = (⟨k, 1, 0, []⟩, xe) := by simp [OM.read, hq, he]
        rw [e]
        exact readE k b o _ c true x xn xe 1 xe hq (.inr (.inl ⟨rfl, rfl, he, rfl⟩)) w (by simp) hl hx0 c1
end Go.Proofs.YtjfpepinmbbnbaaDoor
