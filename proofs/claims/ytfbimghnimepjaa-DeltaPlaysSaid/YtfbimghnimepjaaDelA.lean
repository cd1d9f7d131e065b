/-
  The contract of chapter 23's awake (the document's example): it answers true.
  Conditions: none.
-/
import Derived.Test.YtfbimghnimepjaaDelB
import Derived.Lib.SlBytesConst
namespace Go.Proofs.Ytfbimghnimepjaa
open Go.RowKit
set_option linter.unusedVariables false
set_option linter.unusedSimpArgs false
theorem heap_at (w : World) (o : Obj) (k : Nat) (h : k = w.heap.size) : (w.alloc o).heap[k]? = some o := by subst h; exact heap_alloc_new w o
theorem row_of_heap {W : World} {g e : Nat} {x : List UInt8} {fr : Nat × Nat} (h : W.heap[g]? = some (.cells (x.map bv).toArray e fr)) : ByteRow W g 0 x := fun i hi => by
  simp only [World.cell?]
  rw [h]
  simp [bv, hi]
theorem tx_pair {W : World} {g g1 g2 e : Nat} {x y : List UInt8} {fr : Nat × Nat} (h : W.heap[g]? = some (.cells #[.slice (some ⟨g1, 0, none⟩) x.length x.length, .slice (some ⟨g2, 0, none⟩) y.length y.length] e fr))
    (hx : x.length ≤ maxLen) (hy : y.length ≤ maxLen) (h1 : g1 < W.heap.size) (h2 : g2 < W.heap.size) (r1 : ByteRow W g1 0 x) (r2 : ByteRow W g2 0 y) : TxAt (fun _ => True) false W (some ⟨g, 0, none⟩) [x, y] := fun _ =>
  ⟨g, 0, rfl, trivial, (Array.getElem?_eq_some_iff.1 h).1, fun i hi => by
    match i, hi with
    | 0, _ => exact ⟨some ⟨g1, 0, none⟩, x.length, by simp only [World.cell?]; rw [h]; rfl, Nat.le_refl _, hx, fun _ => ⟨g1, 0, rfl, trivial, h1, fun q => (Bool.false_ne_true q).elim, r1⟩⟩
    | 1, _ => exact ⟨some ⟨g2, 0, none⟩, y.length, by simp only [World.cell?]; rw [h]; rfl, Nat.le_refl _, hy, fun _ => ⟨g2, 0, rfl, trivial, h2, fun q => (Bool.false_ne_true q).elim, r2⟩⟩⟩
def W6 (w : World) : World := (((((w.alloc (.cells #[.int .u8 97, .int .u8 98] 5 (2, 3))).alloc (.cells #[.int .u8 99, .int .u8 100, .int .u8 101] 5 (3, 4))).alloc
  (.cells #[.slice (some ⟨w.heap.size, 0, none⟩) 2 2, .slice (some ⟨w.heap.size + 1, 0, none⟩) 3 3] 73)).alloc (.cells #[.int .u8 97, .int .u8 98] 5 (2, 3))).alloc
  (.cells #[.int .u8 99, .int .u8 88, .int .u8 89, .int .u8 101] 5 (4, 5))).alloc (.cells #[.slice (some ⟨w.heap.size + 1 + 1 + 1, 0, none⟩) 2 2, .slice (some ⟨w.heap.size + 1 + 1 + 1 + 1, 0, none⟩) 4 4] 73)
theorem W6_below (w : World) : Below w.heap.size w (W6 w) := by
  unfold W6
  repeat (first | exact Below.refl _ _ | refine bl_alloc ?_ _)
theorem between_awake (w : World) : Calls Try.prog 44 #[.slice (some ⟨w.heap.size + 1 + 1, 0, none⟩) 2 2, .slice (some ⟨w.heap.size + 1 + 1 + 1 + 1 + 1, 0, none⟩) 2 2] (W6 w) fun e w' =>
    ∃ a c, e = .returned (.tuple #[.slice a 1 c, .bool true]) ∧ ChAt (fun _ => True) w' a [⟨1, 1, [100], [88, 89]⟩] ∧ Below w.heap.size w w' := by
  have sz : (W6 w).heap.size = w.heap.size + 1 + 1 + 1 + 1 + 1 + 1 := by simp [W6]
  have h0 : (W6 w).heap[w.heap.size]? = some (.cells #[.int .u8 97, .int .u8 98] 5 (2, 3)) := by
    unfold W6
    repeat (first | (refine heap_at _ _ _ ?_; simp only [World.size_alloc]; done) | (refine (Below.heap_alloc _ _ _ ?_).trans ?_; (· (simp only [World.size_alloc]; omega))))
  have h1 : (W6 w).heap[w.heap.size + 1]? = some (.cells #[.int .u8 99, .int .u8 100, .int .u8 101] 5 (3, 4)) := by
    unfold W6
    repeat (first | (refine heap_at _ _ _ ?_; simp only [World.size_alloc]; done) | (refine (Below.heap_alloc _ _ _ ?_).trans ?_; (· (simp only [World.size_alloc]; omega))))
  have h2 : (W6 w).heap[w.heap.size + 1 + 1]? = some (.cells #[.slice (some ⟨w.heap.size, 0, none⟩) 2 2, .slice (some ⟨w.heap.size + 1, 0, none⟩) 3 3] 73) := by
    unfold W6
    repeat (first | (refine heap_at _ _ _ ?_; simp only [World.size_alloc]; done) | (refine (Below.heap_alloc _ _ _ ?_).trans ?_; (· (simp only [World.size_alloc]; omega))))
  have h3 : (W6 w).heap[w.heap.size + 1 + 1 + 1]? = some (.cells #[.int .u8 97, .int .u8 98] 5 (2, 3)) := by
    unfold W6
    repeat (first | (refine heap_at _ _ _ ?_; simp only [World.size_alloc]; done) | (refine (Below.heap_alloc _ _ _ ?_).trans ?_; (· (simp only [World.size_alloc]; omega))))
  have h4 : (W6 w).heap[w.heap.size + 1 + 1 + 1 + 1]? = some (.cells #[.int .u8 99, .int .u8 88, .int .u8 89, .int .u8 101] 5 (4, 5)) := by
    unfold W6
    repeat (first | (refine heap_at _ _ _ ?_; simp only [World.size_alloc]; done) | (refine (Below.heap_alloc _ _ _ ?_).trans ?_; (· (simp only [World.size_alloc]; omega))))
  have h5 : (W6 w).heap[w.heap.size + 1 + 1 + 1 + 1 + 1]? = some (.cells #[.slice (some ⟨w.heap.size + 1 + 1 + 1, 0, none⟩) 2 2, .slice (some ⟨w.heap.size + 1 + 1 + 1 + 1, 0, none⟩) 4 4] 73) := by
    unfold W6
    repeat (first | (refine heap_at _ _ _ ?_; simp only [World.size_alloc]; done) | (refine (Below.heap_alloc _ _ _ ?_).trans ?_; (· (simp only [World.size_alloc]; omega))))
  have t1 := tx_pair (x := [97, 98]) (y := [99, 100, 101]) h2 (by simp [maxLen]) (by simp [maxLen]) (by omega) (by omega) (row_of_heap h0) (row_of_heap h1)
  have t2 := tx_pair (x := [97, 98]) (y := [99, 88, 89, 101]) h5 (by simp [maxLen]) (by simp [maxLen]) (by omega) (by omega) (row_of_heap h3) (row_of_heap h4)
  have hc := between_yes (some ⟨w.heap.size + 1 + 1, 0, none⟩) (some ⟨w.heap.size + 1 + 1 + 1 + 1 + 1, 0, none⟩) 2 2 [[97, 98], [99, 100, 101]] [[97, 98], [99, 88, 89, 101]] (W6 w) rfl (by simp)
    (fun j hj => by match j, hj with | 0, _ => simp | 1, _ => simp) (fun j hj => by match j, hj with | 0, _ => simp | 1, _ => simp) t1 t2
  rw [awakeD] at hc
  refine hc.mono ?_
  rintro e w' ⟨a, c, he, hch, hb⟩
  exact ⟨a, c, he, hch, bl_trans (W6_below w) hb⟩
set_option maxHeartbeats 2000000 in
set_option maxRecDepth 100000 in
theorem awake23_any (w : World) : Calls Try.prog 43 #[] w fun e w' => e = .returned (.bool true) ∧ Below w.heap.size w w' := by
  have kc := fun (w : World) (C : Array Value) (n c g : Nat) (hg : g = w.heap.size) => (by
    subst hg
    exact Lib.run_convert_bytes_const (P := Try.prog) w 73 5 C n c Try.underlying73 Try.underlying5 : (convert 73 73 (.slice (some ⟨g, 0, none⟩) n c)).run Try.prog (w.alloc (.cells C 5)) = .ok (.slice (some ⟨g, 0, none⟩) n c) (w.alloc (.cells C 5 (C.size, C.size + 1))))
  go_enter Try.func43, Try.ntmps43
  go_wp2_with fail
  refine (between_awake w).mono ?_
  rintro e w7 ⟨a, c, rfl, hch, hb⟩
  obtain ⟨b, o, oa, oc, na, nc, rfl, _, hbl, k1, k2, k3, k4, _, _, _, _, b3, b4⟩ := hch.nth (i := 0) (by simp)
  have r1 := run_conv b3 73 5 9 Try.underlying73 Try.underlying5 Try.underlying9 oc
  have r2 := run_conv b4 73 5 9 Try.underlying73 Try.underlying5 Try.underlying9 nc
  have hsz := Lib.hid (size_any (some ⟨b, o, none⟩) [⟨1, 1, [100], [88, 89]⟩] c w7 (by simp) (by decide) hch)
  simp only [List.getElem_cons_zero, List.length_cons, List.length_nil, Nat.zero_mul, Nat.add_zero, Nat.zero_add] at k1 k2 k3 k4 r1 r2
  clear kc hch b3 b4
  go_wp2_with (go_at_call 54; refine hsz.out.mono ?_; rintro e w8 ⟨rfl, hb8⟩)
  all_goals go_ret
  all_goals exact ⟨rfl, bl_trans hb hb8⟩
end Go.Proofs.Ytfbimghnimepjaa
