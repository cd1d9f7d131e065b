/-
  Contracts of a change turned round, of the library's way through a list of changes from behind, and of Undo, of chapter 23.
  Conditions: as each theorem states them.
-/
import Derived.Test.YtfbimghnimepjaaDel7
import Derived.Test.YtfbimghnimepjaaIter
import Derived.RangeFuncNested
namespace Go.Proofs.Ytfbimghnimepjaa
open Go.RowKit Go.Shelf
set_option linter.unusedVariables false
set_option linter.unusedSimpArgs false
attribute [local go_sem] Oper.semAt_some
set_option maxHeartbeats 1000000 in
theorem turned_any (f p : Int) (oa na : Option Addr) (on oc nn nc : Nat) (w : World) :
    Calls Try.prog 76 #[.agg #[.int .i64 f, .int .i64 p, .slice oa on oc, .slice na nn nc]] w fun e w' =>
      e = .returned (.agg #[.int .i64 f, .int .i64 p, .slice na nn nc, .slice oa on oc]) ∧ Below w.heap.size w w' := by
  go_enter Try.func76, Try.ntmps76
  go_wp2
  exact bodyPost_ret (v := .agg #[.int .i64 f, .int .i64 p, .slice na nn nc, .slice oa on oc]) (by simp [results, Try.results76, go_sem]) rfl ⟨rfl, by
    repeat (first | exact Below.refl _ _ | refine bl_alloc ?_ _ | refine bl_setCell ?_ (by simp) _)⟩
/-- from behind: the first k of them -/
def rv (len k : Nat) : List Nat := (List.range k).map fun j => len - 1 - j
theorem rv_succ (len k : Nat) : rv len (k + 1) = rv len k ++ [len - 1 - k] := by unfold rv; rw [List.range_succ, List.map_append]; rfl
theorem rv_length (len k : Nat) : (rv len k).length = k := by simp [rv]
def chV (cs : Nat → Value × Value × Value × Value) (x : Nat) : Value := .agg #[(cs x).1, (cs x).2.1, (cs x).2.2.1, (cs x).2.2.2]
set_option maxRecDepth 100000 in
set_option maxHeartbeats 2000000 in
theorem back_in (l Bs b off len cap : Nat) (S : Nat → Prop) (cs : Nat → Value × Value × Value × Value) (hreach : len ≤ 100000) (hb : ¬ S b) (hBS : ¬ S Bs) (J Jx : List Nat → World → Prop)
    (hY : ∀ pre (x : Nat) W, J pre W → pre.length < len → YieldAt Fence.wide (3 - 1) Try.prog l #[.int .i64 (x : Int), chV cs x] W fun e W' =>
      (e = .returned (.bool true) ∧ J (pre ++ [x]) W' ∧ Only S W W') ∨ (e = .returned (.bool false) ∧ Jx (pre ++ [x]) W'))
    (W : World) (hBW : Bs < W.heap.size) (hBs : W.cell? ⟨Bs, 0, none⟩ = some (.slice (some ⟨b, off, none⟩) len cap)) (hbW : b < W.heap.size)
    (hc : ∀ j, j < len → W.cell? ⟨b, off + j * 4, none⟩ = some (cs j).1 ∧ W.cell? ⟨b, off + j * 4 + 1, none⟩ = some (cs j).2.1 ∧ W.cell? ⟨b, off + j * 4 + 2, none⟩ = some (cs j).2.2.1 ∧ W.cell? ⟨b, off + j * 4 + 3, none⟩ = some (cs j).2.2.2) (h0 : J [] W) :
    CallsIn Fence.wide 3 Try.prog 84 #[.func (.yield l) #[] #[], .pointer (some ⟨Bs, 0, none⟩)] W fun e W' => (∃ v, e = .returned v) ∧
      ((∃ ys, ys = rv len len ∧ J ys W') ∨ (∃ pre, (∃ k, k ≤ len ∧ pre = rv len k) ∧ Jx pre W')) := by
  replace hc := Lib.hid hc
  refine callsIn_of_wp Try.func84 rfl trivial ?_ rfl
  simp only [Try.ntmps84, List.size_toArray, List.length_cons, List.length_nil, Nat.reduceAdd, Nat.reduceSub, Array.replicate_succ, Array.replicate_zero, List.push_toArray, List.append_toArray, List.nil_append, List.cons_append]
  gi_wp2
  gi_loopw [3] (fun i wr => ∃ k : Nat, k ≤ len ∧ i = .int .i64 ((len : Int) - 1 - (k : Int)) ∧ J (rv len k) wr ∧ Only S W wr)
    (fun i _ => (intOf i + 1).toNat)
  case atStart => exact ⟨0, Nat.zero_le _, by simp, h0, Only.refl _ _⟩
  case round =>
    obtain ⟨k, hk, rfl, hJs, hnx⟩ := hrel
    have hBr := (only_cell hnx hBW hBS (o := 0)).trans hBs
    by_cases hlt : k < len
    · obtain ⟨j, hj⟩ : ∃ j : Nat, j = len - 1 - k := ⟨_, rfl⟩
      have e0 : (len : Int) - 1 - (k : Int) = (j : Int) := by omega
      rw [e0]
      have hjl : j < len := by omega
      obtain ⟨c1, c2, c3, c4⟩ := hc.out j hjl
      have d1 := (only_cell hnx hbW hb).trans c1
      have d2 := (only_cell hnx hbW hb).trans c2
      have d3 := (only_cell hnx hbW hb).trans c3
      have d4 := (only_cell hnx hbW hb).trans c4
      obtain ⟨fn, tmps, assign, body, hy, hR⟩ := hY _ j wr hJs (by rw [rv_length]; exact hlt)
      rw [hj, ← rv_succ] at hR
      unfold chV at hy
      try dsimp only at hy
      clear c1 c2 c3 c4 e0
      have hjI : (0 : Int) ≤ j := by omega
      replace hj := Lib.hid hj
      gi_wp2
      refine hR.mono ?_
      rintro e W3 (⟨rfl, hJ3, hk3⟩ | ⟨rfl, hJx3⟩)
      · gi_wp2
        go_roundw
        case rel => exact ⟨k + 1, by omega, by have := hj.out; exact congrArg (Value.int .i64) (by omega), hJ3, hnx.trans hk3⟩
        case measure => simp [intOf]
      · gi_wp2
        refine bodyPost_ret (results_none rfl _ _ _) rfl ?_
        exact ⟨⟨_, rfl⟩, .inr ⟨_, ⟨k + 1, by omega, rfl⟩, hJx3⟩⟩
    · obtain rfl : k = len := by omega
      have e0 : (k : Int) - 1 - (k : Int) = -1 := by omega
      rw [e0]
      clear e0
      gi_wp2
      go_end0
      exact ⟨⟨_, rfl⟩, .inl ⟨_, rfl, hJs⟩⟩
set_option maxRecDepth 100000 in
set_option maxHeartbeats 1000000 in
theorem backNil_in (l Bs : Nat) (a : Option Addr) (cap : Nat) (J : List Nat → World → Prop) (W : World) (hBs : W.cell? ⟨Bs, 0, none⟩ = some (.slice a 0 cap)) (h0 : J [] W) :
    CallsIn Fence.wide 3 Try.prog 84 #[.func (.yield l) #[] #[], .pointer (some ⟨Bs, 0, none⟩)] W fun e W' => (∃ v, e = .returned v) ∧ J [] W' := by
  refine callsIn_of_wp Try.func84 rfl trivial ?_ rfl
  simp only [Try.ntmps84, List.size_toArray, List.length_cons, List.length_nil, Nat.reduceAdd, Nat.reduceSub, Array.replicate_succ, Array.replicate_zero, List.push_toArray, List.append_toArray, List.nil_append, List.cons_append]
  gi_wp2
  gi_loopw [3] (fun i wr => i = .int .i64 (-1) ∧ J [] wr) (fun _ _ => 0)
  case atStart => exact ⟨rfl, h0⟩
  case round =>
    obtain ⟨rfl, hJs⟩ := hrel
    gi_wp2
    go_end0
    exact ⟨⟨_, rfl⟩, hJs⟩
/-- the cells of the changes, as a function of their number -/
def chCells (W : World) (b off len : Nat) (cs : Nat → Value × Value × Value × Value) : Prop :=
  ∀ j, j < len → W.cell? ⟨b, off + j * 4, none⟩ = some (cs j).1 ∧ W.cell? ⟨b, off + j * 4 + 1, none⟩ = some (cs j).2.1 ∧ W.cell? ⟨b, off + j * 4 + 2, none⟩ = some (cs j).2.2.1 ∧ W.cell? ⟨b, off + j * 4 + 3, none⟩ = some (cs j).2.2.2
theorem backStops (Bs : Nat) (a : Option Addr) (len cap : Nat) (S : Nat → Prop) (cs : Nat → Value × Value × Value × Value) (hreach : len ≤ 100000) (w : World) (hBs : Bs < w.heap.size) (hBS : ¬ S Bs)
    (hc : w.cell? ⟨Bs, 0, none⟩ = some (.slice a len cap)) (hI : 0 < len → ∃ b off, a = some ⟨b, off, none⟩ ∧ b < w.heap.size ∧ ¬ S b ∧ chCells w b off len cs) :
    SeqStopsK Fence.wide 3 Try.prog 84 #[.pointer (some ⟨Bs, 0, none⟩)] (fun x : Nat => #[Value.int .i64 (x : Int), chV cs x]) (Only S) (fun ys => ys = rv len len)
      (fun pre => ∃ k, k ≤ len ∧ pre = rv len k) len w := fun l J Jx W hW _ _ hY h0 => by
  have hc' := (hW.cell (p := ⟨Bs, 0, none⟩) hBs).trans hc
  rcases Nat.eq_zero_or_pos len with rfl | hp
  · exact (backNil_in l Bs a cap J W hc' h0).mono fun e W' ⟨he, hj⟩ => ⟨he, .inl ⟨_, rfl, hj⟩⟩
  · obtain ⟨b, off, rfl, hb, hn, hcs⟩ := hI hp
    exact back_in l Bs b off len cap S cs hreach hn hBS J Jx hY W (Nat.lt_of_lt_of_le hBs hW.size) hc' (Nat.lt_of_lt_of_le hb hW.size)
      (fun j hj => let ⟨c1, c2, c3, c4⟩ := hcs j hj; ⟨(hW.cell (p := ⟨b, _, none⟩) hb).trans c1, (hW.cell (p := ⟨b, _, none⟩) hb).trans c2, (hW.cell (p := ⟨b, _, none⟩) hb).trans c3, (hW.cell (p := ⟨b, _, none⟩) hb).trans c4⟩) h0
theorem backward_any (a : Option Addr) (len cap : Nat) (w : World) :
    Calls Try.prog 75 #[.slice a len cap] w fun e w' => e = .returned (.func (.func 84) #[] #[.pointer (some ⟨w.heap.size, 0, none⟩)]) ∧ w' = w.alloc (.cells #[.slice a len cap] 87) := by
  go_enter Try.func75, Try.ntmps75
  go_wp2
  go_ret
  exact ⟨rfl, rfl⟩
/-! ### what is said of cells abides turns of blocks that are none -/
theorem gown {W W' : World} {row : Option Nat} (hg : W.grownBy W' row) (hr : ∀ r, row = some r → ∃ o : Obj, W.heap[r]? = some o ∧ o.isCells = false) {b o : Nat} {v : Value} (h : W.cell? ⟨b, o, none⟩ = some v) : W'.heap[b]? = W.heap[b]? := by
  obtain ⟨ob, h1, h2⟩ := cells_of_cell h
  exact hg.block b (Array.getElem?_eq_some_iff.1 h1).1 (fun e => by
    obtain ⟨o', h3, h4⟩ := hr b e.symm
    have h1' : W.heap[b]? = some ob := h1
    rw [h1'] at h3; cases h3; rw [h2] at h4; cases h4)
section
variable {W W' : World} {row : Option Nat} (hg : W.grownBy W' row) (hr : ∀ r, row = some r → ∃ o : Obj, W.heap[r]? = some o ∧ o.isCells = false)
include hg hr
theorem ByAt.grown {K : Nat → Prop} {own : Bool} {a : Option Addr} {xs : List UInt8} (h : ByAt K own W a xs) : ByAt K own W' a xs := fun h0 => by
  obtain ⟨b, o, e, k, l, f, r⟩ := h h0
  have hb := gown hg hr (r 0 h0)
  exact ⟨b, o, e, k, Nat.lt_of_lt_of_le l hg.size, fun x i hi => (frozen_keep hb).trans (f x i hi), fun i hi => (cell_keep hb).trans (r i hi)⟩
theorem TxCell.grown {K : Nat → Prop} {own : Bool} {v : Option Value} {x : List UInt8} (h : TxCell K own W v x) : TxCell K own W' v x := let ⟨a, c, e, h1, h2, h3⟩ := h; ⟨a, c, e, h1, h2, h3.grown hg hr⟩
theorem OutAt.grown {K : Nat → Prop} {own : Bool} {a : Option Addr} {xs : List (List UInt8)} (h : OutAt K own W a xs) : OutAt K own W' a xs := fun h0 => by
  obtain ⟨g, e, k, l, f, r⟩ := h h0
  obtain ⟨xa, xc, e1, _⟩ := r 0 h0
  have hb := gown hg hr e1
  exact ⟨g, e, k, Nat.lt_of_lt_of_le l hg.size, fun i hi => (frozen_keep hb).trans (f i hi), fun i hi => by rw [cell_keep hb]; exact (r i hi).grown hg hr⟩
end
end Go.Proofs.Ytfbimghnimepjaa
