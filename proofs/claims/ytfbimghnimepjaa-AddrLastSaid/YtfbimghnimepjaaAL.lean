/-
  The walks of the laws of layer 15, in the form that the frames want.
  Conditions: as each theorem states them; none beyond.
-/
import Derived.Test.YtfbimghnimepjaaA10
import Derived.Test.YtfbimghnimepjaaA9
import Derived.Test.YtfbimghnimepjaaReads
namespace Go.Proofs.Ytfbimghnimepjaa
open Go.RowKit
set_option linter.unusedVariables false
theorem addrSpans_walk (W : World) (a : Int) (wa : (Lit.int .u8 a).wf = true) (b : Int) (wb : (Lit.int .u8 b).wf = true) (c : Int) (wc : (Lit.int .u8 c).wf = true) :
    Calls Try.prog 4 #[.int .u8 a, .int .u8 b, .int .u8 c] W fun e w' => e = .returned (.bool true) ∧ Below W.heap.size W w' :=
  spans_walk a b c (bounds_u8 wa) (bounds_u8 wb) (bounds_u8 wc) W
theorem addrLast_walk (W : World) (a : Int) (wa : (Lit.int .u8 a).wf = true) (b : Int) (wb : (Lit.int .u8 b).wf = true) :
    Calls Try.prog 6 #[.int .u8 a, .int .u8 b] W fun e w' => e = .returned (.bool true) ∧ Below W.heap.size W w' :=
  last_walk a b (bounds_u8 wa) (bounds_u8 wb) W
abbrev rAddr := rPair (rInt .i64) (rPair (rInt .i64) (rPair (rInt .i64) rUnit))
theorem rAddr_ok {S : Sub} {cs : Array Value} {x : Int × Int × Int × Unit} (h : rAddr.ok S cs.toList x) : cs = #[.int .i64 x.1, .int .i64 x.2.1, .int .i64 x.2.2.1] := by
  obtain ⟨c1, c2, e, ⟨h1, _⟩, d1, d2, e2, ⟨h2, _⟩, f1, f2, e3, ⟨h3, _⟩, h4⟩ := h
  have h4' : f2 = [] := h4
  subst h1 h2 h3 h4' e2 e3
  apply Array.toList_inj.1
  rw [e]; rfl
theorem addrRight_walk (W : World) (cs : Array Value) (x : Int × Int × Int × Unit) (h : rAddr.ok (Sub.all W) cs.toList x) (a : Int) (wa : (Lit.int .i64 a).wf = true) :
    Calls Try.prog 8 #[.agg cs, .int .i64 a] W fun e w' => e = .returned (.bool true) ∧ Below W.heap.size W w' := by
  rw [rAddr_ok h]
  exact right_walk _ _ _ _ W
theorem rBool_row {S : Sub} {b off : Nat} {xs : List Bool} (h : RowAt rBool S b off xs) {w : World} (hw : S.In w) : ∀ i (hi : i < xs.length), w.cell? ⟨b, off + i, none⟩ = some (.bool xs[i]) := fun i hi => by
  obtain ⟨cs, h1, h2⟩ := h i hi
  have h1' : cs = [.bool xs[i]] := h1
  subst h1'
  have := h2.cell hw (j := 0) (by simp)
  simpa [rBool] using this
theorem rBool_lt {S : Sub} {b off : Nat} {xs : List Bool} (h : RowAt rBool S b off xs) {w : World} (hw : S.In w) (h0 : 0 < xs.length) : b < w.heap.size := by
  obtain ⟨cs, _, h2⟩ := h 0 h0
  exact h2.lt hw
theorem addrHolds_walk (W : World) (cs : Array Value) (x : Int × Int × Int × Unit) (h : rAddr.ok (Sub.all W) cs.toList x)
    (ds : Array Value) (y : Int × Bool × List Bool × Unit) (k : (rPair (rInt .i64) (rPair rBool (rPair (rSl rBool) rUnit))).ok (Sub.all W) ds.toList y) :
    Calls Try.prog 3 #[.agg cs, .agg ds] W fun e w' => e = .returned (.bool true) ∧ Below W.heap.size W w' := by
  rw [rAddr_ok h]
  obtain ⟨c1, c2, e, ⟨h1, _⟩, d1, d2, e2, h2, f1, f2, e3, ⟨fa, cap, h3, hcap, _, hrow⟩, h4⟩ := k
  have h2' : d1 = [.bool y.2.1] := h2
  have h4' : f2 = [] := h4
  have hds : ds = #[.int .i64 y.1, .bool y.2.1, .slice fa y.2.2.1.length cap] := by
    apply Array.toList_inj.1
    rw [e, h1, e2, h2', e3, h3, h4']; rfl
  rw [hds]
  by_cases hl : 40 < y.2.2.1.length
  · exact holdsWalk_great _ _ _ _ _ _ _ _ W hl
  by_cases hk : (x.1 == 3) = true
  · have hk' : x.1 = 3 := by simpa using hk
    rw [hk']
    by_cases hin : 0 ≤ x.2.2.1 ∧ x.2.2.1 < y.2.2.1.length
    · obtain ⟨i, hi⟩ := Int.eq_ofNat_of_zero_le hin.1
      rw [hi]
      have hlt : i < y.2.2.1.length := by omega
      obtain ⟨b, off, rfl, hr⟩ := hrow (by omega)
      exact holdsWalk_in _ _ _ _ b off _ _ i W (by omega) hlt (rBool_row hr (Sub.all_in W) i hlt)
    · exact holdsWalk_out _ _ _ _ _ _ _ W (by omega) (by omega)
  · exact holdsWalk_plain _ _ _ _ _ _ _ _ W (by omega) (by simpa using hk)
set_option maxHeartbeats 1000000 in
theorem findsWalk_other (a b : Option Addr) (la ca lb cb : Nat) (w : World) (h : 60 < la ∨ ((lb : Int) == la) = false) :
    Calls Try.prog 5 #[.slice a la ca, .slice b lb cb] w fun e w' => e = .returned (.bool true) ∧ Below w.heap.size w w' := by
  by_cases h0 : 60 < la
  · go_enter Try.func5, Try.ntmps5
    go_wp2_with (go_at_call 14; refine (awake_any _).mono ?_; rintro e w1 ⟨rfl, hb4⟩)
    all_goals go_ret
    all_goals exact ⟨rfl, hb4⟩
  · have h1 : ((lb : Int) == la) = false := h.resolve_left h0
    have h2 : ((lb : Int) != la) = true := by simp_all
    go_enter Try.func5, Try.ntmps5
    go_wp2_with (go_at_call 14; refine (awake_any _).mono ?_; rintro e w1 ⟨rfl, hb4⟩)
    all_goals go_ret
    all_goals exact ⟨rfl, hb4⟩
theorem addrFinds_walk (W : World) (a : Option Addr) (la ca : Nat) (x : List Bool) (h : (rSl rBool).ok (Sub.all W) [.slice a la ca] x) (b : Option Addr) (lb cb : Nat) (y : List Bool) (k : (rSl rBool).ok (Sub.all W) [.slice b lb cb] y) :
    Calls Try.prog 5 #[.slice a la ca, .slice b lb cb] W fun e w' => e = .returned (.bool true) ∧ Below W.heap.size W w' := by
  obtain ⟨a', ca', e, _, _, ha⟩ := h
  obtain ⟨b', cb', e', _, _, hb⟩ := k
  simp only [List.cons.injEq, Value.slice.injEq, and_true] at e e'
  obtain ⟨rfl, rfl, rfl⟩ := e
  obtain ⟨rfl, rfl, rfl⟩ := e'
  by_cases hl : 60 < x.length ∨ ((y.length : Int) == x.length) = false
  · exact findsWalk_other _ _ _ _ _ _ W hl
  · have hxy : y.length = x.length := by
      have : ((y.length : Int) == x.length) = true := by
        cases hh : ((y.length : Int) == x.length) with
        | true => rfl
        | false => exact absurd (.inr hh) hl
      have := beq_iff_eq.1 this
      omega
    rw [hxy]
    refine finds_walk a b x.length ca cb x y W rfl hxy (by omega) (fun h0 => ?_) (fun h0 => ?_)
    · obtain ⟨p, o, rfl, hr⟩ := ha h0
      exact ⟨p, o, rfl, rBool_lt hr (Sub.all_in W) h0, rBool_row hr (Sub.all_in W)⟩
    · obtain ⟨p, o, rfl, hr⟩ := hb (by omega)
      exact ⟨p, o, rfl, rBool_lt hr (Sub.all_in W) (by omega), rBool_row hr (Sub.all_in W)⟩
end Go.Proofs.Ytfbimghnimepjaa
