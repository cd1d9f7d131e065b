/-
  The statement of palinodelaw32.BookSame: whatever the input, the call returns true and its arguments read as before.
  Conditions: none. The frame round the walk ('bookSame_walk'), which says the same of values in memory.
-/
import Derived.Test.YtaginadnaajleaaCmp4
import Derived.Test.YtaginadnaajleaaReads
import Derived.Test.YtaginadnaajleaaRows
namespace Go.Proofs.Ytaginadnaajleaa.bookSame
open Go.ChangeShapes Go.WideShapes Go.ChangeAt Go.RowKit
open Go.ChangeMaps (open_string shut_string)
set_option linter.unusedVariables false

theorem own : ownKnob Try.prog.godebug = none := by kernel_rfl
theorem laidOut : laidOutB Try.prog = true := by kernel_rfl
set_option maxRecDepth 100000 in
theorem lifted (os : Os) (started : os.Started) (H : Type) (enc : TypeId × Value → H) :
    ReturnsInHanded {} Try.checked os 4 .any (Rows.bookSameSpec.pre6 enc Try.prog Try.f4 Rows.bookSameRow.domain false) (Rows.bookSameSpec.post enc Try.prog Try.f4 false true false false) := by
  refine returnsInHanded_of_change (C := Try.checked) own started (by kernel_rfl) Try.func4
    (ChangeSpec.witness6 (enc := enc) (C := Try.checked) false ⟨#[], #[.agg #[.slice none 0 0, .bool false, .bool false, .bool false, .bool false, .slice none 0 0, .slice none 0 0, .int .i64 0, .int .i64 0, .int .i64 0, .slice none 0 0], .agg #[.slice none 0 0, .bool false, .bool false, .bool false, .bool false, .slice none 0 0, .slice none 0 0, .int .i64 0, .int .i64 0, .int .i64 0, .slice none 0 0]], []⟩ 8 (by kernel_rfl) (by kernel_rfl) (by kernel_rfl) (by kernel_rfl)) ?_
  intro W base args ds gs before hval0 hW hcnd _
  have hval : ∀ (j : Nat) t v, Try.f4.params[j]? = some t → args[j]? = some v → Value.okWide Try.prog W .any base t v := hval0
  have hW' := hW
  obtain ⟨p, q, hA0, hV, rfl, hfz, hnd⟩ := hW
  have hA : DataW.TrodAll enc Try.prog W 0 (fun _ => true) true Try.f4.params.toList args.toList ds p := hA0
  rw [Try.params4] at hA hval
  obtain ⟨v0, vs0, d0, ds0, p0, q0, hargs, rfl, rfl, h0, r0⟩ := trodAll_cons hA
  obtain ⟨v1, vs1, d1, ds1, p1, q1, rfl, rfl, rfl, h1, r1⟩ := trodAll_cons r0
  obtain ⟨rfl, rfl, rfl⟩ := trodAll_nil r1
  obtain rfl : args = #[v0, v1] := by cases args; simp_all
  obtain ⟨rfl, rfl⟩ := trodVars_none hV
  obtain ⟨cs0, rfl, sz0⟩ := okWide_struct Try.underlying29 (hval 0 29 v0 rfl rfl)
  have lt0 : ∀ x ∈ p0, x.block < W.heap.size := by obtain ⟨m, hm⟩ := h0; exact DataW.trod_lt m _ _ _ hm
  obtain ⟨x0, rd0⟩ := Reads.trod (A := (rPair (rSl rByte) (rPair (rPair rBool (rPair rBool (rPair rBool (rPair rBool (rPair (rSl rStr) rUnit))))) (rPair (rSl (rPair rStr (rPair (rSl rByte) rUnit))) (rPair (rInt .i64) (rPair (rInt .i64) (rPair (rInt .i64) (rPair (rSl rStr) rUnit)))))))) (Reads.struct Try.underlying29 (by kernel_rfl) (FieldsRead.cons rfl (by kernel_rfl) (Reads.slice Try.underlying23 (by kernel_rfl) (by decide) (Reads.byte Try.underlying5)) (FieldsRead.cons rfl (by kernel_rfl) (Reads.struct Try.underlying26 (by kernel_rfl) (FieldsRead.cons rfl (by kernel_rfl) (Reads.bool Try.underlying4) (FieldsRead.cons rfl (by kernel_rfl) (Reads.bool Try.underlying4) (FieldsRead.cons rfl (by kernel_rfl) (Reads.bool Try.underlying4) (FieldsRead.cons rfl (by kernel_rfl) (Reads.bool Try.underlying4) (FieldsRead.cons rfl (by kernel_rfl) (Reads.slice Try.underlying24 (by kernel_rfl) (by decide) (Reads.str Try.underlying9)) FieldsRead.nil)))))) (FieldsRead.cons rfl (by kernel_rfl) (Reads.slice Try.underlying27 (by kernel_rfl) (by decide) (Reads.struct Try.underlying53 (by kernel_rfl) (FieldsRead.cons rfl (by kernel_rfl) (Reads.str Try.underlying9) (FieldsRead.cons rfl (by kernel_rfl) (Reads.slice Try.underlying23 (by kernel_rfl) (by decide) (Reads.byte Try.underlying5)) FieldsRead.nil)))) (FieldsRead.cons rfl (by kernel_rfl) (Reads.int Try.underlying3) (FieldsRead.cons rfl (by kernel_rfl) (Reads.int Try.underlying3) (FieldsRead.cons rfl (by kernel_rfl) (Reads.int Try.underlying3) (FieldsRead.cons rfl (by kernel_rfl) (Reads.slice Try.underlying24 (by kernel_rfl) (by decide) (Reads.str Try.underlying9)) FieldsRead.nil)))))))) h0
  obtain ⟨cs1, rfl, sz1⟩ := okWide_struct Try.underlying29 (hval 1 29 v1 rfl rfl)
  have lt1 : ∀ x ∈ p1, x.block < W.heap.size := by obtain ⟨m, hm⟩ := h1; exact DataW.trod_lt m _ _ _ hm
  obtain ⟨x1, rd1⟩ := Reads.trod (A := (rPair (rSl rByte) (rPair (rPair rBool (rPair rBool (rPair rBool (rPair rBool (rPair (rSl rStr) rUnit))))) (rPair (rSl (rPair rStr (rPair (rSl rByte) rUnit))) (rPair (rInt .i64) (rPair (rInt .i64) (rPair (rInt .i64) (rPair (rSl rStr) rUnit)))))))) (Reads.struct Try.underlying29 (by kernel_rfl) (FieldsRead.cons rfl (by kernel_rfl) (Reads.slice Try.underlying23 (by kernel_rfl) (by decide) (Reads.byte Try.underlying5)) (FieldsRead.cons rfl (by kernel_rfl) (Reads.struct Try.underlying26 (by kernel_rfl) (FieldsRead.cons rfl (by kernel_rfl) (Reads.bool Try.underlying4) (FieldsRead.cons rfl (by kernel_rfl) (Reads.bool Try.underlying4) (FieldsRead.cons rfl (by kernel_rfl) (Reads.bool Try.underlying4) (FieldsRead.cons rfl (by kernel_rfl) (Reads.bool Try.underlying4) (FieldsRead.cons rfl (by kernel_rfl) (Reads.slice Try.underlying24 (by kernel_rfl) (by decide) (Reads.str Try.underlying9)) FieldsRead.nil)))))) (FieldsRead.cons rfl (by kernel_rfl) (Reads.slice Try.underlying27 (by kernel_rfl) (by decide) (Reads.struct Try.underlying53 (by kernel_rfl) (FieldsRead.cons rfl (by kernel_rfl) (Reads.str Try.underlying9) (FieldsRead.cons rfl (by kernel_rfl) (Reads.slice Try.underlying23 (by kernel_rfl) (by decide) (Reads.byte Try.underlying5)) FieldsRead.nil)))) (FieldsRead.cons rfl (by kernel_rfl) (Reads.int Try.underlying3) (FieldsRead.cons rfl (by kernel_rfl) (Reads.int Try.underlying3) (FieldsRead.cons rfl (by kernel_rfl) (Reads.int Try.underlying3) (FieldsRead.cons rfl (by kernel_rfl) (Reads.slice Try.underlying24 (by kernel_rfl) (by decide) (Reads.str Try.underlying9)) FieldsRead.nil)))))))) h1
  clear hA0 hval0
  refine ((bookSame_walk W cs0 x0 rd0 cs1 x1 rd1)).mono fun e W' ⟨he, bel⟩ => ?_
  subst he
  exact ⟨_, rfl, _, _, _, [], _, [], hW', trodAll_mk1 (shut_bool Try.underlying4 _), (trodAll_cons_mk (Below.trod laidOut (by kernel_rfl) (of_decide_eq_true (by kernel_rfl)) h0 bel lt0) (trodAll_cons_mk (Below.trod laidOut (by kernel_rfl) (of_decide_eq_true (by kernel_rfl)) h1 bel lt1) trodAll_mk0)), rfl, bel.frame _, fun h => by cases h⟩

theorem over : Rows.bookSameRow.holds Try.pinned (OpenSpec.ofChange Rows.bookSameSpec) :=
  OpenClaim.holds_of_wide 4 Try.f4 rfl rfl rfl rfl rfl rfl rfl ⟨rfl, rfl, rfl, rfl, rfl⟩ rfl rfl rfl rfl rfl (by kernel_rfl) Try.func4 (by kernel_rfl)
    (of_decide_eq_true (by kernel_rfl)) (by unfold Func.isWrapper; first | (rw [if_pos (by decide +kernel)]; kernel_rfl) | (rw [if_neg (by decide +kernel)]; exact ⟨rfl, rfl⟩))
    (fun os started H enc _ => lifted os started H enc)

/-- the statement -/
theorem proved : Rows.BookSameSaid := over
#print axioms proved
end Go.Proofs.Ytaginadnaajleaa.bookSame
