/-
  The statement of palinodelaw30.ViewReads: whatever the input, the call returns true and its arguments read as before.
  Conditions: none. The frame round the walk ('viewReads_walk'), which says the same of values in memory.
-/
import Derived.Test.YtjfpepinmbbnbaaDoorReadsX
import Derived.Test.YtjfpepinmbbnbaaDoorReads
import Derived.Test.YtjfpepinmbbnbaaDoorLaid
import Derived.Test.YtjfpepinmbbnbaaDoorTie
import Derived.Test.YtjfpepinmbbnbaaDoorCards
import Derived.SevenTiedAt
import Derived.ChangeVars
import Derived.JoinedOf
namespace Go.Proofs.YtjfpepinmbbnbaaDoor.viewReads
open Go.ChangeShapes Go.WideShapes Go.ChangeAt Go.RowKit
open Go.ChangeMaps (open_string shut_string)
set_option linter.unusedVariables false

theorem own : ownKnob Tryd.prog.godebug = none := by kernel_rfl
theorem laidOut : laidOutB Tryd.prog = true := by kernel_rfl
set_option maxRecDepth 100000 in
theorem lifted (os : Os) (started : os.Started) (H : Type) (enc : TypeId × Value → H) :
    ReturnsInHanded {} Tryd.checked os 11 .any (fun w args => (Rows.viewReadsSpec.pre enc Tryd.prog Tryd.f11 [] false w args ∧ laidMetH Tryd.prog laidAll w) ∧ sizedMet enc Tryd.prog Tryd.f11 (OpenSpec.ofChange Rows.viewReadsSpec) false w args) (Rows.viewReadsSpec.post enc Tryd.prog Tryd.f11 false true false false) := by
  refine returnsInHanded_of_change_and (C := Tryd.checked) (X := fun w _ => laidMetH Tryd.prog laidAll w) (fun _ _ _ hh h => h.of_heap hh) own started (by kernel_rfl) Tryd.func11
    (ChangeSpec.witness_shaped (enc := enc) (C := Tryd.checked) (os := os) (X := fun w _ => laidMetH Tryd.prog laidAll w) false (World.doorLaid Tryd.prog 400 os) #[.agg #[.slice none 0 0, .slice none 0 0, .bool false, .int .i64 0, .bool false, .int .i64 0, .int .i64 0, .int .i64 0, .int .i64 0, .int .i64 0, .slice none 0 0, .slice none 0 0, .bool false, .slice none 0 0, .bool false, .int .i64 0, .int .i64 0, .int .i64 0, .int .i64 0, .int .i64 0, .bool false, .bool false, .bool false, .slice none 0 0, .slice none 0 0, .slice none 0 0, .slice none 0 0], .string ⟨#[]⟩] 8 rfl (door_shaped os _) (by kernel_rfl) (by kernel_rfl) (by kernel_rfl) (door_met os _)) ?_
  intro W base args ds gs before hval0 hW _ hwt hL _
  have hval : ∀ (j : Nat) t v, Tryd.f11.params[j]? = some t → args[j]? = some v → Value.okWide Tryd.prog W .any base t v := hval0
  have hW' := hW
  obtain ⟨p, q, hA0, hV, rfl, hfz, hnd⟩ := hW
  have hA : DataW.TrodAll enc Tryd.prog W 0 (fun _ => true) true Tryd.f11.params.toList args.toList ds p := hA0
  rw [Tryd.params11] at hA hval hwt
  obtain ⟨v0, vs0, d0, ds0, p0, q0, hargs, rfl, rfl, h0, r0⟩ := trodAll_cons hA
  obtain ⟨v1, vs1, d1, ds1, p1, q1, rfl, rfl, rfl, h1, r1⟩ := trodAll_cons r0
  obtain ⟨rfl, rfl, rfl⟩ := trodAll_nil r1
  obtain rfl : args = #[v0, v1] := by cases args; simp_all
  obtain ⟨rfl, rfl⟩ := trodVars_none hV
  obtain ⟨cs0, rfl, sz0⟩ := okWide_struct Tryd.underlying66 (hval 0 66 v0 rfl rfl)
  have lt0 : ∀ x ∈ p0, x.block < W.heap.size := by obtain ⟨m, hm⟩ := h0; exact DataW.trod_lt m _ _ _ hm
  obtain ⟨x0, rd0⟩ := ReadsW.trod (A := rState) (ReadsW.struct Tryd.underlying66 (by kernel_rfl) (FieldsReadW.cons rfl (by kernel_rfl) (ReadsW.struct Tryd.underlying57 (by kernel_rfl) (FieldsReadW.cons rfl (by kernel_rfl) (ReadsW.slice Tryd.underlying22 (by kernel_rfl) (by decide) (of_decide_eq_true (by kernel_rfl)) (Reads.w (Reads.byte Tryd.underlying5))) (FieldsReadW.cons rfl (by kernel_rfl) (ReadsW.slice Tryd.underlying22 (by kernel_rfl) (by decide) (of_decide_eq_true (by kernel_rfl)) (Reads.w (Reads.byte Tryd.underlying5))) (FieldsReadW.cons rfl (by kernel_rfl) (Reads.w (Reads.bool Tryd.underlying4)) (FieldsReadW.cons rfl (by kernel_rfl) (Reads.w (Reads.int Tryd.underlying3)) (FieldsReadW.cons rfl (by kernel_rfl) (Reads.w (Reads.bool Tryd.underlying4)) (FieldsReadW.cons rfl (by kernel_rfl) (Reads.w (Reads.int Tryd.underlying3)) FieldsReadW.nil))))))) (FieldsReadW.cons rfl (by kernel_rfl) (ReadsW.struct Tryd.underlying59 (by kernel_rfl) (FieldsReadW.cons rfl (by kernel_rfl) (Reads.w (Reads.int Tryd.underlying3)) (FieldsReadW.cons rfl (by kernel_rfl) (Reads.w (Reads.int Tryd.underlying3)) (FieldsReadW.cons rfl (by kernel_rfl) (Reads.w (Reads.int Tryd.underlying3)) (FieldsReadW.cons rfl (by kernel_rfl) (Reads.w (Reads.int Tryd.underlying3)) (FieldsReadW.cons rfl (by kernel_rfl) (ReadsW.slice Tryd.underlying22 (by kernel_rfl) (by decide) (of_decide_eq_true (by kernel_rfl)) (Reads.w (Reads.byte Tryd.underlying5))) FieldsReadW.nil)))))) (FieldsReadW.cons rfl (by kernel_rfl) (ReadsW.struct Tryd.underlying61 (by kernel_rfl) (FieldsReadW.cons rfl (by kernel_rfl) (ReadsW.slice Tryd.underlying22 (by kernel_rfl) (by decide) (of_decide_eq_true (by kernel_rfl)) (Reads.w (Reads.byte Tryd.underlying5))) (FieldsReadW.cons rfl (by kernel_rfl) (Reads.w (Reads.bool Tryd.underlying4)) (FieldsReadW.cons rfl (by kernel_rfl) (ReadsW.slice Tryd.underlying22 (by kernel_rfl) (by decide) (of_decide_eq_true (by kernel_rfl)) (Reads.w (Reads.byte Tryd.underlying5))) (FieldsReadW.cons rfl (by kernel_rfl) (Reads.w (Reads.bool Tryd.underlying4)) FieldsReadW.nil))))) (FieldsReadW.cons rfl (by kernel_rfl) (Reads.w (Reads.int Tryd.underlying3)) (FieldsReadW.cons rfl (by kernel_rfl) (Reads.w (Reads.int Tryd.underlying3)) (FieldsReadW.cons rfl (by kernel_rfl) (Reads.w (Reads.int Tryd.underlying3)) (FieldsReadW.cons rfl (by kernel_rfl) (Reads.w (Reads.int Tryd.underlying3)) (FieldsReadW.cons rfl (by kernel_rfl) (Reads.w (Reads.int Tryd.underlying24)) (FieldsReadW.cons rfl (by kernel_rfl) (Reads.w (Reads.bool Tryd.underlying4)) (FieldsReadW.cons rfl (by kernel_rfl) (Reads.w (Reads.bool Tryd.underlying4)) (FieldsReadW.cons rfl (by kernel_rfl) (Reads.w (Reads.bool Tryd.underlying4)) (FieldsReadW.cons rfl (by kernel_rfl) (ReadsW.slice Tryd.underlying62 (by kernel_rfl) (by decide) (of_decide_eq_true (by kernel_rfl)) (Reads.w (Reads.bool Tryd.underlying4))) (FieldsReadW.cons rfl (by kernel_rfl) (ReadsW.slice Tryd.underlying63 (by kernel_rfl) (by decide) (of_decide_eq_true (by kernel_rfl)) (ReadsW.struct Tryd.underlying98 (by kernel_rfl) (FieldsReadW.cons rfl (by kernel_rfl) (Reads.w (Reads.int Tryd.underlying3)) (FieldsReadW.cons rfl (by kernel_rfl) (ReadsW.slice Tryd.underlying22 (by kernel_rfl) (by decide) (of_decide_eq_true (by kernel_rfl)) (Reads.w (Reads.byte Tryd.underlying5))) FieldsReadW.nil)))) (FieldsReadW.cons rfl (by kernel_rfl) (ReadsW.slice Tryd.underlying64 (by kernel_rfl) (by decide) (of_decide_eq_true (by kernel_rfl)) (ReadsW.struct Tryd.underlying78 (by kernel_rfl) (FieldsReadW.cons rfl (by kernel_rfl) (ReadsW.str Tryd.underlying9) (FieldsReadW.cons rfl (by kernel_rfl) (ReadsW.slice Tryd.underlying22 (by kernel_rfl) (by decide) (of_decide_eq_true (by kernel_rfl)) (Reads.w (Reads.byte Tryd.underlying5))) FieldsReadW.nil)))) (FieldsReadW.cons rfl (by kernel_rfl) (ReadsW.slice Tryd.underlying62 (by kernel_rfl) (by decide) (of_decide_eq_true (by kernel_rfl)) (Reads.w (Reads.bool Tryd.underlying4))) FieldsReadW.nil)))))))))))))))) h0 (weights_of hwt 0 rfl rfl)
  obtain ⟨a1, rfl, rfl, rfl, w1⟩ := open_string Tryd.underlying9 (hval 1 9 v1 rfl rfl) h1
  clear hA0 hval0
  refine ((viewReads_walk W (pow_of_laid hL) cs0 x0 rd0 a1 w1)).mono fun e W' ⟨he, bel⟩ => ?_
  subst he
  exact ⟨_, rfl, _, _, _, [], _, [], hW', trodAll_mk1 (shut_bool Tryd.underlying4 _), (trodAll_cons_mk (Below.trod laidOut (by kernel_rfl) (of_decide_eq_true (by kernel_rfl)) h0 bel lt0) (trodAll_cons_mk (shut_string Tryd.underlying9 w1) trodAll_mk0)), rfl, bel.frame _, fun h => by cases h⟩

theorem over : Rows.viewReadsRow.holds Tryd.pinned (OpenSpec.ofChange Rows.viewReadsSpec) :=
  OpenClaim.holds_of_wide 11 Tryd.f11 rfl rfl rfl rfl rfl rfl rfl ⟨rfl, rfl, rfl, rfl, rfl⟩ rfl rfl rfl rfl rfl (by kernel_rfl) Tryd.func11 (by kernel_rfl)
    (of_decide_eq_true (by kernel_rfl)) (by unfold Func.isWrapper; first | (rw [if_pos (by decide +kernel)]; kernel_rfl) | (rw [if_neg (by decide +kernel)]; exact ⟨rfl, rfl⟩))
    (fun os started H enc _ => lifted os started H enc)

/-- the statement -/
theorem proved : Rows.ViewReadsCardSaid :=
  Claim7.holds_tied_plain_at .later [] [.data, .data, .data] true Rows.viewReadsCard.stood.harness false
    over (fun _ h => by cases h) (by kernel_rfl) (fun _ h => by cases h) viewReads_row_tie rfl ⟨rfl, rfl⟩ (by kernel_rfl) rfl
    (fun f fn hf hfn => by
      obtain rfl : f = 11 := Option.some.inj ((show Tryd.prog.funcNamed "palinode/palinodelaw30.ViewReads" = some 11 by kernel_rfl).symm.trans hf) |>.symm
      obtain rfl : fn = Tryd.f11 := (Option.some.inj (Tryd.func11.symm.trans hfn)).symm
      exact ⟨by kernel_rfl, fun j t ht => by
        rw [Tryd.params11] at ht
        have hm : t ∈ [66, 9] := by simpa using Array.mem_of_getElem? ht
        have hall : ([66, 9].all fun u => !Tryd.prog.wantsStandIn u) = true := by kernel_rfl
        exact (show Tryd.prog.wantsStandIn t = false by simpa using List.all_eq_true.1 hall t hm)⟩)
    (by kernel_rfl)
#print axioms proved
end Go.Proofs.YtjfpepinmbbnbaaDoor.viewReads
