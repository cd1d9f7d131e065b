/-
  awake of chapter 32: the document's example.
  Conditions: none.
-/
import Derived.Test.YtaginadnaajleaaDoorParse
namespace Go.Proofs.YtaginadnaajleaaDoor
open Go.RowKit
set_option linter.unusedVariables false
set_option linter.unusedSimpArgs false
open BM (Cs)
theorem own_get {w : World} {base e n : Nat} {v : Value} {xs : List Value} (h : w.ownsRow base e 1 v n xs) (hn : 0 < n) : ∃ gq cap, v = .slice (some ⟨gq, 0, none⟩) n cap ∧ gq < w.heap.size ∧ ∀ j u, xs[j]? = some u → w.cell? ⟨gq, j, none⟩ = some u := by
  obtain ⟨h1, h2⟩ := h
  rcases h2 with ⟨rfl, h0⟩ | ⟨gq, cap, cur, rfl, hb, hh, _, _, _, hx⟩
  · omega
  · have hB : Blk w gq e cur.toList := by simpa [Blk] using hh
    refine ⟨gq, cap, rfl, hB.lt, fun j u hj => ?_⟩
    rw [hB.cell]
    rw [← hx] at hj
    rw [List.getElem?_take] at hj
    split at hj
    · simpa using hj
    · cases hj
def doStep : List UInt8 := [100, 111, 32, 115, 116, 101, 112]
theorem parse_step : BM.parseS doStep = ({ BM.init with lines := [[115, 116, 101, 112]] }, 0, 0) := by rfl
set_option maxHeartbeats 4000000 in
set_option maxRecDepth 100000 in
theorem awake32 (w : World) : Calls Tryd.prog 5 #[] w fun e w' => e = .returned (.bool true) ∧ Below w.heap.size w w' := by
  have hp := parse_any doStep (by decide) w
  rw [parse_step] at hp
  unfold ParseIs csCells at hp
  have hp2 : Calls Tryd.prog 8 #[.string ⟨#[100, 111, 32, 115, 116, 101, 112]⟩] w fun e w' => ∃ b1 d1 b2 d2 b3 d3 gq cap, e = .returned (.tuple #[.agg #[.slice b1 0 d1, .bool false, .bool false, .bool false, .bool false, .slice b2 0 d2, .slice b3 0 d3, .int .i64 100, .int .i64 10, .int .i64 10000, .slice (some ⟨gq, 0, none⟩) 1 cap], .int .i64 0, .int .i64 0]) ∧ gq < w'.heap.size ∧ w'.cell? ⟨gq, 0, none⟩ = some (.string ⟨#[115, 116, 101, 112]⟩) ∧ Below w.heap.size w w' := by
    refine hp.mono fun e w' he => ?_
    obtain ⟨vs, vi, vf, vl, fv, g, base, rfl, hC, hg, hb⟩ := he
    obtain ⟨gq, cap, hv, hlt, hc⟩ := own_get hC.lin (by decide)
    obtain ⟨b1, d1, h1⟩ := own_slice hC.sed
    obtain ⟨b2, d2, h2⟩ := own_slice hC.inp
    obtain ⟨b3, d3, h3⟩ := own_slice hC.fil
    subst hv h1 h2 h3
    exact ⟨b1, d1, b2, d2, b3, d3, gq, cap, rfl, hlt, hc 0 _ rfl, hb⟩
  replace hp2 := Lib.hid hp2
  clear hp
  go_enter Tryd.func5, Tryd.ntmps5
  go_wp2_with (go_at_call 8; refine hp2.out.mono ?_; rintro e w1 ⟨b1, d1, b2, d2, b3, d3, gq, cap, rfl, hlt, hc, hb⟩)
  all_goals go_ret
  all_goals exact ⟨rfl, bl_alloc hb _⟩
end Go.Proofs.YtaginadnaajleaaDoor
