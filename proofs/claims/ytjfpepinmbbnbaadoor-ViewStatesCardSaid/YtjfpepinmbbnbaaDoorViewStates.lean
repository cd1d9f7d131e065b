/-
  The statement of palinodelaw30.ViewStates: whatever the input, the call returns true and its arguments read as before.
  Conditions: none. The frame round the walk ('viewStates_walk'), which says the same of values in memory.
-/
import Derived.Test.YtjfpepinmbbnbaaDoorStatesW
import Derived.Test.YtjfpepinmbbnbaaDoorReads
import Derived.Test.YtjfpepinmbbnbaaDoorLaid
import Derived.Test.YtjfpepinmbbnbaaDoorTie
import Derived.Test.YtjfpepinmbbnbaaDoorCards
import Derived.SevenTiedAt
import Derived.ChangeVars
import Derived.JoinedOf
namespace Go.Proofs.YtjfpepinmbbnbaaDoor.viewStates
open Go.ChangeShapes Go.WideShapes Go.ChangeAt Go.RowKit
open Go.ChangeMaps (open_string shut_string)
set_option linter.unusedVariables false

theorem own : ownKnob Tryd.prog.godebug = none := by kernel_rfl
theorem laidOut : laidOutB Tryd.prog = true := by kernel_rfl
set_option maxRecDepth 100000 in
theorem lifted (os : Os) (started : os.Started) (H : Type) (enc : TypeId × Value → H) :
    ReturnsInHanded {} Tryd.checked os 12 .any (fun w args => (Rows.viewStatesSpec.pre enc Tryd.prog Tryd.f12 [] false w args ∧ laidMetH Tryd.prog laidAll w) ∧ sizedMet enc Tryd.prog Tryd.f12 (OpenSpec.ofChange Rows.viewStatesSpec) false w args) (Rows.viewStatesSpec.post enc Tryd.prog Tryd.f12 false true false false) := by
  refine returnsInHanded_of_change_and (C := Tryd.checked) (X := fun w _ => laidMetH Tryd.prog laidAll w) (fun _ _ _ hh h => h.of_heap hh) own started (by kernel_rfl) Tryd.func12
    (ChangeSpec.witness_shaped (enc := enc) (C := Tryd.checked) (os := os) (X := fun w _ => laidMetH Tryd.prog laidAll w) false (World.doorLaid Tryd.prog 400 os) #[.agg #[.slice none 0 0, .slice none 0 0, .bool false, .int .i64 0, .bool false, .int .i64 0, .int .i64 0, .int .i64 0, .int .i64 0, .int .i64 0, .slice none 0 0, .slice none 0 0, .bool false, .slice none 0 0, .bool false, .int .i64 0, .int .i64 0, .int .i64 0, .int .i64 0, .int .i64 0, .bool false, .bool false, .bool false, .slice none 0 0, .slice none 0 0, .slice none 0 0, .slice none 0 0], .int .i64 0, .string ⟨#[]⟩] 8 rfl (door_shaped os _) (by kernel_rfl) (by kernel_rfl) (by kernel_rfl) (door_met os _)) ?_
  intro W base args ds gs before hval0 hW _ hwt hL _
  have hval : ∀ (j : Nat) t v, Tryd.f12.params[j]? = some t → args[j]? = some v → Value.okWide Tryd.prog W .any base t v := hval0
  have hW' := hW
  obtain ⟨p, q, hA0, hV, rfl, hfz, hnd⟩ := hW
  have hA : DataW.TrodAll enc Tryd.prog W 0 (fun _ => true) true Tryd.f12.params.toList args.toList ds p := hA0
  rw [Tryd.params12] at hA hval hwt
  obtain ⟨v0, vs0, d0, ds0, p0, q0, hargs, rfl, rfl, h0, r0⟩ := trodAll_cons hA
  obtain ⟨v1, vs1, d1, ds1, p1, q1, rfl, rfl, rfl, h1, r1⟩ := trodAll_cons r0
  obtain ⟨v2, vs2, d2, ds2, p2, q2, rfl, rfl, rfl, h2, r2⟩ := trodAll_cons r1
  obtain ⟨rfl, rfl, rfl⟩ := trodAll_nil r2
  obtain rfl : args = #[v0, v1, v2] := by cases args; simp_all
  obtain ⟨rfl, rfl⟩ := trodVars_none hV
  obtain ⟨cs0, rfl, sz0⟩ := okWide_struct Tryd.underlying66 (hval 0 66 v0 rfl rfl)
  have lt0 : ∀ x ∈ p0, x.block < W.heap.size := by obtain ⟨m, hm⟩ := h0; exact DataW.trod_lt m _ _ _ hm
  obtain ⟨x0, rd0⟩ := ReadsW.trod (A := rState) (ReadsW.struct Tryd.underlying66 (by kernel_rfl) (FieldsReadW.cons rfl (by kernel_rfl) (ReadsW.struct Tryd.underlying57 (by kernel_rfl) (FieldsReadW.cons rfl (by kernel_rfl) (ReadsW.slice Tryd.underlying22 (by kernel_rfl) (by decide) (of_decide_eq_true (by kernel_rfl)) (Reads.w (Reads.byte Tryd.underlying5))) (FieldsReadW.cons rfl (by kernel_rfl) (ReadsW.slice Tryd.underlying22 (by kernel_rfl) (by decide) (of_decide_eq_true (by kernel_rfl)) (Reads.w (Reads.byte Tryd.underlying5))) (FieldsReadW.cons rfl (by kernel_rfl) (Reads.w (Reads.bool Tryd.underlying4)) (FieldsReadW.cons rfl (by kernel_rfl) (Reads.w (Reads.int Tryd.underlying3)) (FieldsReadW.cons rfl (by kernel_rfl) (Reads.w (Reads.bool Tryd.underlying4)) (FieldsReadW.cons rfl (by kernel_rfl) (Reads.w (Reads.int Tryd.underlying3)) FieldsReadW.nil))))))) (FieldsReadW.cons rfl (by kernel_rfl) (ReadsW.struct Tryd.underlying59 (by kernel_rfl) (FieldsReadW.cons rfl (by kernel_rfl) (Reads.w (Reads.int Tryd.underlying3)) (FieldsReadW.cons rfl (by kernel_rfl) (Reads.w (Reads.int Tryd.underlying3)) (FieldsReadW.cons rfl (by kernel_rfl) (Reads.w (Reads.int Tryd.underlying3)) (FieldsReadW.cons rfl (by kernel_rfl) (Reads.w (Reads.int Tryd.underlying3)) (FieldsReadW.cons rfl (by kernel_rfl) (ReadsW.slice Tryd.underlying22 (by kernel_rfl) (by decide) (of_decide_eq_true (by kernel_rfl)) (Reads.w (Reads.byte Tryd.underlying5))) FieldsReadW.nil)))))) (FieldsReadW.cons rfl (by kernel_rfl) (ReadsW.struct Tryd.underlying61 (by kernel_rfl) (FieldsReadW.cons rfl (by kernel_rfl) (ReadsW.slice Tryd.underlying22 (by kernel_rfl) (by decide) (of_decide_eq_true (by kernel_rfl)) (Reads.w (Reads.byte Tryd.underlying5))) (FieldsReadW.cons rfl (by kernel_rfl) (Reads.w (Reads.bool Tryd.underlying4)) (FieldsReadW.cons rfl (by kernel_rfl) (ReadsW.slice Tryd.underlying22 (by kernel_rfl) (by decide) (of_decide_eq_true (by kernel_rfl)) (Reads.w (Reads.byte Tryd.underlying5))) (FieldsReadW.cons rfl (by kernel_rfl) (Reads.w (Reads.bool Tryd.underlying4)) FieldsReadW.nil))))) (FieldsReadW.cons rfl (by kernel_rfl) (Reads.w (Reads.int Tryd.underlying3)) (FieldsReadW.cons rfl (by kernel_rfl) (Reads.w (Reads.int Tryd.underlying3)) (FieldsReadW.cons rfl (by kernel_rfl) (Reads.w (Reads.int Tryd.underlying3)) (FieldsReadW.cons rfl (by kernel_rfl) (Reads.w (Reads.int Tryd.underlying3)) (FieldsReadW.cons rfl (by kernel_rfl) (Reads.w (Reads.int Tryd.underlying24)) (FieldsReadW.cons rfl (by kernel_rfl) (Reads.w (Reads.bool Tryd.underlying4)) (FieldsReadW.cons rfl (by kernel_rfl) (Reads.w (Reads.bool Tryd.underlying4)) (FieldsReadW.cons rfl (by kernel_rfl) (Reads.w (Reads.bool Tryd.underlying4)) (FieldsReadW.cons rfl (by kernel_rfl) (ReadsW.slice Tryd.underlying62 (by kernel_rfl) (by decide) (of_decide_eq_true (by kernel_rfl)) (Reads.w (Reads.bool Tryd.underlying4))) (FieldsReadW.cons rfl (by kernel_rfl) (ReadsW.slice Tryd.underlying63 (by kernel_rfl) (by decide) (of_decide_eq_true (by kernel_rfl)) (ReadsW.struct Tryd.underlying98 (by kernel_rfl) (FieldsReadW.cons rfl (by kernel_rfl) (Reads.w (Reads.int Tryd.underlying3)) (FieldsReadW.cons rfl (by kernel_rfl) (ReadsW.slice Tryd.underlying22 (by kernel_rfl) (by decide) (of_decide_eq_true (by kernel_rfl)) (Reads.w (Reads.byte Tryd.underlying5))) FieldsReadW.nil)))) (FieldsReadW.cons rfl (by kernel_rfl) (ReadsW.slice Tryd.underlying64 (by kernel_rfl) (by decide) (of_decide_eq_true (by kernel_rfl)) (ReadsW.struct Tryd.underlying78 (by kernel_rfl) (FieldsReadW.cons rfl (by kernel_rfl) (ReadsW.str Tryd.underlying9) (FieldsReadW.cons rfl (by kernel_rfl) (ReadsW.slice Tryd.underlying22 (by kernel_rfl) (by decide) (of_decide_eq_true (by kernel_rfl)) (Reads.w (Reads.byte Tryd.underlying5))) FieldsReadW.nil)))) (FieldsReadW.cons rfl (by kernel_rfl) (ReadsW.slice Tryd.underlying62 (by kernel_rfl) (by decide) (of_decide_eq_true (by kernel_rfl)) (Reads.w (Reads.bool Tryd.underlying4))) FieldsReadW.nil)))))))))))))))) h0 (weights_of hwt 0 rfl rfl)
  obtain ⟨a1, rfl, rfl, rfl, w1⟩ := open_int Tryd.underlying3 (hval 1 3 v1 rfl rfl) h1
  obtain ⟨a2, rfl, rfl, rfl, w2⟩ := open_string Tryd.underlying9 (hval 2 9 v2 rfl rfl) h2
  clear hA0 hval0
  refine ((viewStates_walk W (pow_of_laid hL) cs0 x0 rd0 a1 w1 a2 w2)).mono fun e W' ⟨he, bel⟩ => ?_
  subst he
  exact ⟨_, rfl, _, _, _, [], _, [], hW', trodAll_mk1 (shut_bool Tryd.underlying4 _), (trodAll_cons_mk (Below.trod laidOut (by kernel_rfl) (of_decide_eq_true (by kernel_rfl)) h0 bel lt0) (trodAll_cons_mk (shut_int Tryd.underlying3 w1) (trodAll_cons_mk (shut_string Tryd.underlying9 w2) trodAll_mk0))), rfl, bel.frame _, fun h => by cases h⟩

theorem over : Rows.viewStatesRow.holds Tryd.pinned (OpenSpec.ofChange Rows.viewStatesSpec) :=
  OpenClaim.holds_of_wide 12 Tryd.f12 rfl rfl rfl rfl rfl rfl rfl ⟨rfl, rfl, rfl, rfl, rfl⟩ rfl rfl rfl rfl rfl (by kernel_rfl) Tryd.func12 (by kernel_rfl)
    (of_decide_eq_true (by kernel_rfl)) (by unfold Func.isWrapper; first | (rw [if_pos (by decide +kernel)]; kernel_rfl) | (rw [if_neg (by decide +kernel)]; exact ⟨rfl, rfl⟩))
    (fun os started H enc _ => lifted os started H enc)

/-- the statement -/
theorem proved : Rows.ViewStatesCardSaid :=
  Claim7.holds_tied_plain_at .later [] [.data, .data, .data] true Rows.viewStatesCard.stood.harness false
    over (fun _ h => by cases h) (by kernel_rfl) (fun _ h => by cases h) viewStates_row_tie rfl ⟨rfl, rfl⟩ (by kernel_rfl) rfl
    (fun f fn hf hfn => by
      obtain rfl : f = 12 := Option.some.inj ((show Tryd.prog.funcNamed "palinode/palinodelaw30.ViewStates" = some 12 by kernel_rfl).symm.trans hf) |>.symm
      obtain rfl : fn = Tryd.f12 := (Option.some.inj (Tryd.func12.symm.trans hfn)).symm
      exact ⟨by kernel_rfl, fun j t ht => by
        rw [Tryd.params12] at ht
        have hm : t ∈ [66, 3, 9] := by simpa using Array.mem_of_getElem? ht
        have hall : ([66, 3, 9].all fun u => !Tryd.prog.wantsStandIn u) = true := by kernel_rfl
        exact (show Tryd.prog.wantsStandIn t = false by simpa using List.all_eq_true.1 hall t hm)⟩)
    (by kernel_rfl)
#print axioms proved
end Go.Proofs.YtjfpepinmbbnbaaDoor.viewStates
