/-
  The contracts of what reads the words behind a first one, of chapter 29: named, breaks, list.
  Conditions: as each theorem states them.
-/
import Derived.Test.YtjfpepinmbbnbaaDoorOrd2
import Derived.Deep.RegionHeld3
import Derived.Deep.CutBlock
import Derived.Deep.DeepCutAuto
namespace Go.Proofs.YtjfpepinmbbnbaaDoor
open Go.RowKit
set_option linter.unusedVariables false
set_option linter.unusedSimpArgs false
abbrev ordC (o : OM.Ord) : Array Value := #[.int .i64 o.kind, .int .i64 o.n, .int .i64 o.m, strV o.s]
/-- what a reader answers -/
def OrdIs (p : OM.Ord × Int) (w : World) (e : Ending) (w' : World) : Prop := e = .returned (.tuple #[.agg #[.int .i64 p.1.kind, .int .i64 p.1.n, .int .i64 p.1.m, strV p.1.s], .int .i64 p.2]) ∧ Below w.heap.size w w'
theorem OrdIs.mk {p : OM.Ord × Int} {w w' : World} {k n m c : Int} {s : List UInt8} (hp : p = (⟨k, n, m, s⟩, c)) (hb : Below w.heap.size w w') : OrdIs p w (.returned (.tuple #[.agg #[.int .i64 k, .int .i64 n, .int .i64 m, strV s], .int .i64 c])) w' := by
  subst hp; exact ⟨rfl, hb⟩
theorem StrAt.lit (w : World) (t : TypeId) (xs : List (List UInt8)) : StrAt (fun _ => True) (w.alloc (.cells (xs.map strV).toArray t)) (some ⟨w.heap.size, 0, none⟩) xs := fun _ =>
  ⟨w.heap.size, 0, rfl, trivial, by simp, fun i hi => by
    rw [Nat.zero_add]
    have := (Blk.new w t (xs.map strV)).cell i
    rw [this]; simp [hi]⟩
theorem mem29_shown (x : List UInt8) : mem29 OM.shownW x = decide (x ∈ OM.shownW) := rfl
set_option maxHeartbeats 2000000 in
theorem shown_any (w : World) : Calls Tryd.prog 86 #[] w fun e w' => e = .returned (.slice (some ⟨w.heap.size, 0, none⟩) 8 8) ∧ w' = w.alloc (.cells (OM.shownW.map strV).toArray 9) := by
  go_enter Tryd.func86, Tryd.ntmps86
  go_wp2
  go_ret
  exact ⟨rfl, rfl⟩
set_option maxHeartbeats 4000000 in
set_option maxRecDepth 100000 in
theorem named_file (a : Option Addr) (c : Nat) (xs : List (List UInt8)) (w : World) (hl : xs.length ≤ 1000000) (hx : ∀ i (h : i < xs.length), xs[i].length ≤ 1000000) (h : StrAt (fun _ => True) w a xs) :
    Calls Tryd.prog 59 #[strV OM.fileW, .slice a xs.length c] w (OrdIs (OM.named OM.fileW xs) w) := by
  cases xs with
  | nil =>
    clear h hx
    go_enter Tryd.func59, Tryd.ntmps59
    go_wp2_with fail
    refine bodyPost_ret (v := .tuple #[.agg #[.int .i64 0, .int .i64 0, .int .i64 0, strV []], .int .i64 9]) (by simp [results, Tryd.results59, go_sem]) rfl (OrdIs.mk (rfl) ?_)
    repeat (first | exact Below.refl _ _ | exact bl_drewN (Below.refl _ _) _ | refine bl_alloc ?_ _ | refine bl_setCell ?_ (by simp) _ | refine bl_drew ?_ | refine bl_drewN ?_ _)
  | cons x r =>
    obtain ⟨b, o, rfl, c1⟩ := h.nth (i := 0) (by simp)
    simp only [List.getElem_cons_zero, Nat.add_zero] at c1
    have hl1 := World.block_lt_of_cell? w _ c1
    have hl0 : x.length ≤ 1000000 := hx 0 (by simp)
    have hle : r.length + 1 ≤ 1000000 := hl
    clear h hx hl
    have hnm := fun (W : World) => isName_any x W (by omega)
    cases hn : OM.isName x with
    | true =>
      rw [hn] at hnm
      replace hnm := Lib.hid hnm
      replace hn := Lib.hid hn
      cases r with
      | nil =>
        go_enter Tryd.func59, Tryd.ntmps59
        go_wp2_with (go_at_call 84; refine (hnm.out _).mono ?_; rintro e w5 ⟨rfl, rfl⟩)
        refine bodyPost_ret (v := .tuple #[.agg #[.int .i64 16, .int .i64 0, .int .i64 0, strV x], .int .i64 0]) (by simp [results, Tryd.results59, go_sem]) rfl (OrdIs.mk (by simp [OM.named, hn.out]) ?_)
        repeat (first | exact Below.refl _ _ | exact bl_drewN (Below.refl _ _) _ | refine bl_alloc ?_ _ | refine bl_setCell ?_ (by simp) _ | refine bl_drew ?_ | refine bl_drewN ?_ _)
      | cons y q =>
        go_enter Tryd.func59, Tryd.ntmps59
        go_wp2_with (go_at_call 84; refine (hnm.out _).mono ?_; rintro e w5 ⟨rfl, rfl⟩)
        refine bodyPost_ret (v := .tuple #[.agg #[.int .i64 16, .int .i64 0, .int .i64 0, strV x], .int .i64 9]) (by simp [results, Tryd.results59, go_sem]) rfl (OrdIs.mk (by simp [OM.named, hn.out]) ?_)
        repeat (first | exact Below.refl _ _ | exact bl_drewN (Below.refl _ _) _ | refine bl_alloc ?_ _ | refine bl_setCell ?_ (by simp) _ | refine bl_drew ?_ | refine bl_drewN ?_ _)
    | false =>
      rw [hn] at hnm
      replace hnm := Lib.hid hnm
      replace hn := Lib.hid hn
      go_enter Tryd.func59, Tryd.ntmps59
      go_wp2_with (go_at_call 84; refine (hnm.out _).mono ?_; rintro e w5 ⟨rfl, rfl⟩)
      refine bodyPost_ret (v := .tuple #[.agg #[.int .i64 16, .int .i64 0, .int .i64 0, strV x], .int .i64 4]) (by simp [results, Tryd.results59, go_sem]) rfl (OrdIs.mk (by simp [OM.named, hn.out]) ?_)
      repeat (first | exact Below.refl _ _ | exact bl_drewN (Below.refl _ _) _ | refine bl_alloc ?_ _ | refine bl_setCell ?_ (by simp) _ | refine bl_drew ?_ | refine bl_drewN ?_ _)
theorem cells4 {w : World} {b : Nat} {t : TypeId} {x y z u : Value} (h : Blk w b t [x, y, z, u]) : w.cell? ⟨b, 0, none⟩ = some x ∧ w.cell? ⟨b, 1, none⟩ = some y ∧ w.cell? ⟨b, 2, none⟩ = some z ∧ w.cell? ⟨b, 3, none⟩ = some u := ⟨h.cell 0, h.cell 1, h.cell 2, h.cell 3⟩
theorem free4 {w : World} {b : Nat} {t : TypeId} {x y z u : Value} (h : Blk w b t [x, y, z, u]) : w.frozen? ⟨b, 0, none⟩ = false ∧ w.frozen? ⟨b, 1, none⟩ = false ∧ w.frozen? ⟨b, 2, none⟩ = false ∧ w.frozen? ⟨b, 3, none⟩ = false := ⟨h.free 0, h.free 1, h.free 2, h.free 3⟩
/-- one among those that are shown -/
theorem showB_yes {x : List UInt8} (h : mem29 OM.shownW x = true) : x ∈ OM.shownW := by simpa [mem29] using h
theorem showB_no {x : List UInt8} (h : mem29 OM.shownW x = false) : ¬ x ∈ OM.shownW := by simpa [mem29] using h
set_option maxHeartbeats 1000000 in
set_option maxRecDepth 100000 in
theorem named_showN (b o n c : Nat) (x : List UInt8) (w : World) (hn0 : 0 < n) (hn : n ≤ 1000000) (c1 : w.cell? ⟨b, o, none⟩ = some (strV x)) :
    Calls Tryd.prog 59 #[strV OM.showW, .slice (some ⟨b, o, none⟩) n c] w (OrdIs (⟨14, 0, 0, x⟩, if mem29 OM.shownW x = true then (if n = 1 then 0 else 9) else 9) w) := by
  have hl1 := World.block_lt_of_cell? w _ c1
  have hct := fun (W : World) => (contains_any (some ⟨W.heap.size, 0, none⟩) 8 OM.shownW x (W.alloc (.cells (OM.shownW.map strV).toArray 9)).drew (by decide) (StrAt.below (StrAt.lit W _ _) (bl_drew (Below.refl _ _))) : Calls Tryd.prog 85 #[.slice (some ⟨W.heap.size, 0, none⟩) 8 8, strV x] (W.alloc (.cells (OM.shownW.map strV).toArray 9)).drew fun e w' => e = .returned (.bool (mem29 OM.shownW x)) ∧ (W.alloc (.cells (OM.shownW.map strV).toArray 9)).drew = w')
  have kk := Lib.hid (fun (W' : World) (hb : Below w.heap.size w W') => (hb.cell (p := ⟨b, o, none⟩) hl1).trans c1)
  have e0 : ((n : Int) == 0) = false := by simp; omega
  have e1 : (0 : Int) < n := by omega
  have ef : (OM.showW == [102, 105, 108, 101]) = false := by decide
  generalize hm : mem29 OM.shownW x = m at *
  replace hm := Lib.hid hm
  replace hct := Lib.hid hct
  have hl2 : b < w.heap.size := hl1
  clear hl1
  go_enter Tryd.func59, Tryd.ntmps59
  go_upto_region 8 with fail
  obtain ⟨W1, hW1⟩ : ∃ W1, (w.alloc (.cells #[.int .i64 0, .int .i64 0, .int .i64 0, .string ⟨#[]⟩] 41)).alloc (.cells #[.int .i64 14, .int .i64 0, .int .i64 0, .string ⟨x.toArray⟩] 41) = W1 := ⟨_, rfl⟩
  have hb1 : Below w.heap.size w W1 := by rw [← hW1]; exact bl_alloc (bl_alloc (Below.refl _ _) _) _
  have k4 := kk.out _ hb1
  have k5 := kk.out _ (bl_drew hb1)
  rw [hW1]
  go_cut [29] (fun s29 wx => s29 = .bool (!m) ∧ Below W1.heap.size W1 wx)
  case first =>
    clear c1
    go_region_held3 (fun w' => w'.cell? ⟨b, o, none⟩ = some (strV x)) (first | exact k5 | exact kk.out _ (bl_alloc (bl_drew hb1) _))
      (first
      | (go_at_call 86; refine (shown_any _).mono ?_; rintro e w5 ⟨rfl, rfl⟩)
      | (go_at_call 85; refine (hct.out _).mono ?_; rintro e w6 ⟨rfl, rfl⟩))
    all_goals go_wp2_with fail
    all_goals go_meet
    all_goals exact ⟨rfl, by repeat (first | exact Below.refl _ _ | refine bl_alloc ?_ _ | refine bl_drew ?_)⟩
  case rest =>
    obtain ⟨rfl, hb2⟩ := hcut
    have B0 : Blk W1 w.heap.size 41 [.int .i64 0, .int .i64 0, .int .i64 0, .string ⟨#[]⟩] := by rw [← hW1]; exact (Blk.new w _ _).alloc _
    have B1 : Blk W1 (w.heap.size + 1) 41 [.int .i64 14, .int .i64 0, .int .i64 0, .string ⟨x.toArray⟩] := by
      rw [← hW1]; have := Blk.new (w.alloc (.cells #[.int .i64 0, .int .i64 0, .int .i64 0, .string ⟨#[]⟩] 41)) 41 [.int .i64 14, .int .i64 0, .int .i64 0, .string ⟨x.toArray⟩]; rwa [World.size_alloc] at this
    have bW : Below w.heap.size w wc := bl_trans hb1 hb2
    replace B0 := B0.below hb2
    replace B1 := B1.below hb2
    obtain ⟨p0, p1, p2, p3⟩ := cells4 B0
    obtain ⟨q0, q1, q2, q3⟩ := cells4 B1
    obtain ⟨f0, f1, f2, f3⟩ := free4 B0
    clear c1 k4 k5 kk hct hb2 hb1 hW1 B0 B1
    cases m with
    | true =>
      by_cases h1 : n = 1
      · have e2 : decide ((1 : Int) < n) = false := by rw [decide_eq_false_iff_not]; omega
        have h1' := Lib.hid h1
        clear h1
        go_wp2_with fail
        refine bodyPost_ret (v := .tuple #[.agg #[.int .i64 14, .int .i64 0, .int .i64 0, strV x], .int .i64 0]) ?_ rfl (OrdIs.mk (by first | rfl | simp [h1'.out]) ?_)
        · simp [results, Tryd.results59, go_sem, p0, p1, p2, p3]
        · repeat (first | exact bW | refine bl_setCell ?_ (by simp) _)
      · have e2 : decide ((1 : Int) < n) = true := by rw [decide_eq_true_eq]; omega
        have h1' := Lib.hid h1
        clear h1
        go_wp2_with fail
        refine bodyPost_ret (v := .tuple #[.agg #[.int .i64 14, .int .i64 0, .int .i64 0, strV x], .int .i64 9]) ?_ rfl (OrdIs.mk (by first | rfl | simp [h1'.out]) ?_)
        · simp [results, Tryd.results59, go_sem, p0, p1, p2, p3]
        · repeat (first | exact bW | refine bl_setCell ?_ (by simp) _)
    | false =>
      go_wp2_with fail
      refine bodyPost_ret (v := .tuple #[.agg #[.int .i64 14, .int .i64 0, .int .i64 0, strV x], .int .i64 9]) ?_ rfl (OrdIs.mk (by simp) ?_)
      · simp [results, Tryd.results59, go_sem, p0, p1, p2, p3]
      · repeat (first | exact bW | refine bl_setCell ?_ (by simp) _)
theorem named_show (a : Option Addr) (c : Nat) (xs : List (List UInt8)) (w : World) (hl : xs.length ≤ 1000000) (hx : ∀ i (h : i < xs.length), xs[i].length ≤ 1000000) (h : StrAt (fun _ => True) w a xs) :
    Calls Tryd.prog 59 #[strV OM.showW, .slice a xs.length c] w (OrdIs (OM.named OM.showW xs) w) := by
  cases xs with
  | nil =>
    clear h hx
    go_enter Tryd.func59, Tryd.ntmps59
    go_wp2_with fail
    refine bodyPost_ret (v := .tuple #[.agg #[.int .i64 0, .int .i64 0, .int .i64 0, strV []], .int .i64 9]) (by simp [results, Tryd.results59, go_sem]) rfl (OrdIs.mk rfl ?_)
    repeat (first | exact Below.refl _ _ | refine bl_alloc ?_ _ | refine bl_setCell ?_ (by simp) _)
  | cons x r =>
    obtain ⟨b, o, rfl, c1⟩ := h.nth (i := 0) (by simp)
    simp only [List.getElem_cons_zero, Nat.add_zero] at c1
    have h1 := named_showN b o (x :: r).length c x w (by simp) hl c1
    have e : OM.named OM.showW (x :: r) = (⟨14, 0, 0, x⟩, if mem29 OM.shownW x = true then (if (x :: r).length = 1 then 0 else 9) else 9) := by
      have e2 : ((x :: r).length = 1) = (r = []) := by simp
      simp only [OM.named, if_neg (show ¬ OM.showW = OM.fileW by decide), mem29, decide_eq_true_eq, e2]
    rw [e]; exact h1
/-! ### break -/
theorem idx_cmd : OM.idx [OM.cmdW, OM.lineW] OM.cmdW = 0 := by decide
theorem idx_line : OM.idx [OM.cmdW, OM.lineW] OM.lineW = 1 := by decide
theorem idx_none {x : List UInt8} (h1 : x ≠ OM.cmdW) (h2 : x ≠ OM.lineW) : OM.idx [OM.cmdW, OM.lineW] x = -1 :=
  idx_no fun i hi => by
    match i, hi with
    | 0, _ => exact fun e => h1 e.symm
    | 1, _ => exact fun e => h2 e.symm
abbrev zeroO : Obj := .cells #[.int .i64 0, .int .i64 0, .int .i64 0, .string ⟨#[]⟩] 41
abbrev kindO (k n m : Int) : Obj := .cells #[.int .i64 k, .int .i64 n, .int .i64 m, .string ⟨#[]⟩] 41
/-- the two orders that a reader lays first, and what it lays then -/
theorem two_orders (w : World) (k n m : Int) {w6 : World} (hb : Below ((w.alloc zeroO).alloc (kindO k n m)).heap.size ((w.alloc zeroO).alloc (kindO k n m)) w6) :
    Blk w6 w.heap.size 41 [.int .i64 0, .int .i64 0, .int .i64 0, .string ⟨#[]⟩] ∧ Blk w6 (w.heap.size + 1) 41 [.int .i64 k, .int .i64 n, .int .i64 m, .string ⟨#[]⟩] ∧ Below w.heap.size w w6 := by
  have B0 : Blk ((w.alloc zeroO).alloc (kindO k n m)) w.heap.size 41 [.int .i64 0, .int .i64 0, .int .i64 0, .string ⟨#[]⟩] := (Blk.new w _ [.int .i64 0, .int .i64 0, .int .i64 0, .string ⟨#[]⟩]).alloc _
  have B1 : Blk ((w.alloc zeroO).alloc (kindO k n m)) (w.heap.size + 1) 41 [.int .i64 k, .int .i64 n, .int .i64 m, .string ⟨#[]⟩] := by
    have := Blk.new (w.alloc zeroO) 41 [.int .i64 k, .int .i64 n, .int .i64 m, .string ⟨#[]⟩]; rwa [World.size_alloc] at this
  exact ⟨B0.below hb, B1.below hb, bl_trans (bl_alloc (bl_alloc (Below.refl _ _) _) _) hb⟩
end Go.Proofs.YtjfpepinmbbnbaaDoor
