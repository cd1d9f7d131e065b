/-
  StopsPlay at data that come in: the walk, as the frame takes it; of chapter 28.
  Conditions: as each theorem states them.
-/
import Derived.Test.YtcjcflmnghhbaaaGreatStoL
import Derived.Test.YtcjcflmnghhbaaaGreatGreatR
namespace Go.Proofs.YtcjcflmnghhbaaaGreat
open Go.RowKit
set_option linter.unusedVariables false
abbrev rOpB := rPair (rInt .i64) (rPair (rInt .i64) (rPair (rInt .i64) (rPair rStrB rUnit)))
theorem opB_of {W : World} {cs : List Value} {x} (h : rOpB.ok (Sub.all W) cs x) : ∃ o : OpB, cs = o.cells ∧ o.s.length ≤ 140737488351232 := by
  obtain ⟨x1, x2, x3, x4, xu⟩ := x
  obtain ⟨p0, q0, r0, ⟨h1, k1⟩, p1, q1, r1, ⟨h2, k2⟩, p2, q2, r2, ⟨h3, k3⟩, p3, q3, r3, ⟨s, e4, es, hs⟩, h5⟩ := h
  have h5' : q3 = [] := h5
  refine ⟨⟨x1, x2, x3, s.data.toList⟩, ?_, ?_⟩
  · rw [r0, h1, r1, h2, r2, h3, r3, e4, h5', strV_eq (s := s) rfl]
    simp [OpB.cells]
  · show s.data.toList.length ≤ _
    rw [Array.length_toList]
    simpa [reachBytes] using hs
theorem stopsPlay_walk (W : World) (a0 : Option Addr) (l0 c0 : Nat) (x0) (rd0 : (rSlB rOpB).ok (Sub.all W) [.slice a0 l0 c0] x0)
    (cs1 : Array Value) (x1 : _) (rd1 : rState.ok (Sub.all W) cs1.toList x1) (cs2 : Array Value) (x2 : _) (rd2 : rState.ok (Sub.all W) cs2.toList x2) (hsh : W.ShapedOpen Tryz.prog) :
    Calls Tryz.prog 3 #[.slice a0 l0 c0, .agg cs1, .agg cs2] W fun e w' => e = .returned (.bool true) ∧ Below W.heap.size W w' := by
  obtain ⟨s1, b1, e1, h1⟩ := raw_of rd1
  obtain ⟨s2, b2, e2, h2⟩ := raw_of rd2
  obtain ⟨c2⟩ := cs1
  obtain ⟨c3⟩ := cs2
  simp only at e1 e2
  subst e1 e2
  obtain ⟨mx, hmx⟩ : ∃ m, W.cell? ⟨0, 0, none⟩ = some (.int .i64 m) := Tryz.laysM186.s1_3 W hsh
  have hm : MxAt W := ⟨World.block_lt_of_cell? W ⟨0, 0, none⟩ hmx, mx, hmx⟩
  obtain ⟨⟨a, c, e, hcp, _, hr⟩, hl⟩ := rd0
  obtain ⟨rfl, rfl, rfl⟩ : a0 = a ∧ l0 = x0.length ∧ c0 = c := by simpa using e
  refine stopsPlay_list W a0 x0.length c0 (by simpa [reachBytes] using hl) (fun i hi => ?_) s1 s2 b1 b2 h1 h2 hm
  obtain ⟨b, o, rfl, hrow⟩ := hr (by omega)
  obtain ⟨cs, k1, k2⟩ := hrow i hi
  obtain ⟨x, rfl, hx⟩ := opB_of k1
  have hn : rOpB.n = 4 := rfl
  rw [hn] at k2
  refine ⟨b, o, x, rfl, hx, k2.lt (Sub.all_in W), fun j u hu => ?_⟩
  have hj : j < x.cells.length := (List.getElem?_eq_some_iff.1 hu).1
  have := k2.cell (Sub.all_in W) (j := j) hj
  rw [this, ← hu, List.getElem?_eq_getElem hj]
end Go.Proofs.YtcjcflmnghhbaaaGreat
