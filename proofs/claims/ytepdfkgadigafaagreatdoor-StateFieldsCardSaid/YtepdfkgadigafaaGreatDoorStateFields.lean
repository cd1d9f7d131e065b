/-
  The statement of palinodelaw20.StateFields: whatever the input, the call returns true and its arguments read as before.
  Conditions: none. The frame round the walk ('stateFields_walk'), which says the same of values in memory.
-/
import Derived.Test.YtepdfkgadigafaaGreatDoorSfd
import Derived.Test.YtepdfkgadigafaaGreatDoorReads
import Derived.Test.YtepdfkgadigafaaGreatDoorLaid7
import Derived.Test.YtepdfkgadigafaaGreatDoorTie
import Derived.Test.YtepdfkgadigafaaGreatDoorCards
import Derived.SevenTiedAt
import Derived.ChangeVars
import Derived.JoinedOf
namespace Go.Proofs.YtepdfkgadigafaaGreatDoor.stateFields
open Go.ChangeShapes Go.WideShapes Go.ChangeAt Go.RowKit
open Go.ChangeMaps (open_string shut_string)
set_option linter.unusedVariables false

theorem own : ownKnob Tryz.prog.godebug = none := by kernel_rfl
theorem laidOut : laidOutB Tryz.prog = true := by kernel_rfl
set_option maxRecDepth 100000 in
theorem lifted (os : Os) (started : os.Started) (H : Type) (enc : TypeId × Value → H) :
    ReturnsInHanded {} Tryz.checked os 5 .any (fun w args => (Rows.stateFieldsSpec.pre enc Tryz.prog Tryz.f5 [] false w args ∧ laidMetH Tryz.prog laidAll w) ∧ sizedMet enc Tryz.prog Tryz.f5 (OpenSpec.ofChange Rows.stateFieldsSpec) false w args) (Rows.stateFieldsSpec.post enc Tryz.prog Tryz.f5 false true false false) := by
  refine returnsInHanded_of_change_and (C := Tryz.checked) (X := fun w _ => laidMetH Tryz.prog laidAll w) (fun _ _ _ hh h => h.of_heap hh) own started (by kernel_rfl) Tryz.func5
    (ChangeSpec.witness_shaped (enc := enc) (C := Tryz.checked) (os := os) (X := fun w _ => laidMetH Tryz.prog laidAll w) false (World.laidAll Tryz.prog os laidAll) #[.agg #[.slice none 0 0, .slice none 0 0, .bool false, .int .i64 0, .bool false, .int .i64 0, .int .i64 0, .int .i64 0, .int .i64 0, .int .i64 0, .slice none 0 0, .slice none 0 0, .bool false, .slice none 0 0, .bool false, .int .i64 0, .int .i64 0, .int .i64 0, .int .i64 0, .int .i64 0, .bool false, .bool false, .bool false, .slice none 0 0, .slice none 0 0, .slice none 0 0, .slice none 0 0]] 8 (World.laidAll_os _ _ _) (door_shaped os _) (by kernel_rfl) (by kernel_rfl) (by kernel_rfl) (door_met os _)) ?_
  intro W base args ds gs before hval0 hW _ hwt hL _
  have hval : ∀ (j : Nat) t v, Tryz.f5.params[j]? = some t → args[j]? = some v → Value.okWide Tryz.prog W .any base t v := hval0
  have hW' := hW
  obtain ⟨p, q, hA0, hV, rfl, hfz, hnd⟩ := hW
  have hA : DataW.TrodAll enc Tryz.prog W 0 (fun _ => true) true Tryz.f5.params.toList args.toList ds p := hA0
  rw [Tryz.params5] at hA hval hwt
  obtain ⟨v0, vs0, d0, ds0, p0, q0, hargs, rfl, rfl, h0, r0⟩ := trodAll_cons hA
  obtain ⟨rfl, rfl, rfl⟩ := trodAll_nil r0
  obtain rfl : args = #[v0] := by cases args; simp_all
  obtain ⟨rfl, rfl⟩ := trodVars_none hV
  obtain ⟨cs0, rfl, sz0⟩ := okWide_struct Tryz.underlying34 (hval 0 34 v0 rfl rfl)
  have lt0 : ∀ x ∈ p0, x.block < W.heap.size := by obtain ⟨m, hm⟩ := h0; exact DataW.trod_lt m _ _ _ hm
  obtain ⟨x0, rd0⟩ := ReadsW.trod (A := rState) (ReadsW.struct Tryz.underlying34 (by kernel_rfl) (FieldsReadW.cons rfl (by kernel_rfl) (ReadsW.struct Tryz.underlying24 (by kernel_rfl) (FieldsReadW.cons rfl (by kernel_rfl) (ReadsW.slice Tryz.underlying22 (by kernel_rfl) (by decide) (of_decide_eq_true (by kernel_rfl)) (Reads.w (Reads.byte Tryz.underlying5))) (FieldsReadW.cons rfl (by kernel_rfl) (ReadsW.slice Tryz.underlying22 (by kernel_rfl) (by decide) (of_decide_eq_true (by kernel_rfl)) (Reads.w (Reads.byte Tryz.underlying5))) (FieldsReadW.cons rfl (by kernel_rfl) (Reads.w (Reads.bool Tryz.underlying4)) (FieldsReadW.cons rfl (by kernel_rfl) (Reads.w (Reads.int Tryz.underlying3)) (FieldsReadW.cons rfl (by kernel_rfl) (Reads.w (Reads.bool Tryz.underlying4)) (FieldsReadW.cons rfl (by kernel_rfl) (Reads.w (Reads.int Tryz.underlying3)) FieldsReadW.nil))))))) (FieldsReadW.cons rfl (by kernel_rfl) (ReadsW.struct Tryz.underlying26 (by kernel_rfl) (FieldsReadW.cons rfl (by kernel_rfl) (Reads.w (Reads.int Tryz.underlying3)) (FieldsReadW.cons rfl (by kernel_rfl) (Reads.w (Reads.int Tryz.underlying3)) (FieldsReadW.cons rfl (by kernel_rfl) (Reads.w (Reads.int Tryz.underlying3)) (FieldsReadW.cons rfl (by kernel_rfl) (Reads.w (Reads.int Tryz.underlying3)) (FieldsReadW.cons rfl (by kernel_rfl) (ReadsW.slice Tryz.underlying22 (by kernel_rfl) (by decide) (of_decide_eq_true (by kernel_rfl)) (Reads.w (Reads.byte Tryz.underlying5))) FieldsReadW.nil)))))) (FieldsReadW.cons rfl (by kernel_rfl) (ReadsW.struct Tryz.underlying28 (by kernel_rfl) (FieldsReadW.cons rfl (by kernel_rfl) (ReadsW.slice Tryz.underlying22 (by kernel_rfl) (by decide) (of_decide_eq_true (by kernel_rfl)) (Reads.w (Reads.byte Tryz.underlying5))) (FieldsReadW.cons rfl (by kernel_rfl) (Reads.w (Reads.bool Tryz.underlying4)) (FieldsReadW.cons rfl (by kernel_rfl) (ReadsW.slice Tryz.underlying22 (by kernel_rfl) (by decide) (of_decide_eq_true (by kernel_rfl)) (Reads.w (Reads.byte Tryz.underlying5))) (FieldsReadW.cons rfl (by kernel_rfl) (Reads.w (Reads.bool Tryz.underlying4)) FieldsReadW.nil))))) (FieldsReadW.cons rfl (by kernel_rfl) (Reads.w (Reads.int Tryz.underlying3)) (FieldsReadW.cons rfl (by kernel_rfl) (Reads.w (Reads.int Tryz.underlying3)) (FieldsReadW.cons rfl (by kernel_rfl) (Reads.w (Reads.int Tryz.underlying3)) (FieldsReadW.cons rfl (by kernel_rfl) (Reads.w (Reads.int Tryz.underlying3)) (FieldsReadW.cons rfl (by kernel_rfl) (Reads.w (Reads.int Tryz.underlying29)) (FieldsReadW.cons rfl (by kernel_rfl) (Reads.w (Reads.bool Tryz.underlying4)) (FieldsReadW.cons rfl (by kernel_rfl) (Reads.w (Reads.bool Tryz.underlying4)) (FieldsReadW.cons rfl (by kernel_rfl) (Reads.w (Reads.bool Tryz.underlying4)) (FieldsReadW.cons rfl (by kernel_rfl) (ReadsW.slice Tryz.underlying30 (by kernel_rfl) (by decide) (of_decide_eq_true (by kernel_rfl)) (Reads.w (Reads.bool Tryz.underlying4))) (FieldsReadW.cons rfl (by kernel_rfl) (ReadsW.slice Tryz.underlying31 (by kernel_rfl) (by decide) (of_decide_eq_true (by kernel_rfl)) (ReadsW.struct Tryz.underlying52 (by kernel_rfl) (FieldsReadW.cons rfl (by kernel_rfl) (Reads.w (Reads.int Tryz.underlying3)) (FieldsReadW.cons rfl (by kernel_rfl) (ReadsW.slice Tryz.underlying22 (by kernel_rfl) (by decide) (of_decide_eq_true (by kernel_rfl)) (Reads.w (Reads.byte Tryz.underlying5))) FieldsReadW.nil)))) (FieldsReadW.cons rfl (by kernel_rfl) (ReadsW.slice Tryz.underlying32 (by kernel_rfl) (by decide) (of_decide_eq_true (by kernel_rfl)) (ReadsW.struct Tryz.underlying50 (by kernel_rfl) (FieldsReadW.cons rfl (by kernel_rfl) (ReadsW.str Tryz.underlying9) (FieldsReadW.cons rfl (by kernel_rfl) (ReadsW.slice Tryz.underlying22 (by kernel_rfl) (by decide) (of_decide_eq_true (by kernel_rfl)) (Reads.w (Reads.byte Tryz.underlying5))) FieldsReadW.nil)))) (FieldsReadW.cons rfl (by kernel_rfl) (ReadsW.slice Tryz.underlying30 (by kernel_rfl) (by decide) (of_decide_eq_true (by kernel_rfl)) (Reads.w (Reads.bool Tryz.underlying4))) FieldsReadW.nil)))))))))))))))) h0 (weights_of hwt 0 rfl rfl)
  clear hA0 hval0
  refine ((stateFields_walk W ⟨pow_of_laid hL, err_of_laid hL⟩ cs0 x0 rd0)).mono fun e W' ⟨he, bel⟩ => ?_
  subst he
  exact ⟨_, rfl, _, _, _, [], _, [], hW', trodAll_mk1 (shut_bool Tryz.underlying4 _), (trodAll_cons_mk (Below.trod laidOut (by kernel_rfl) (of_decide_eq_true (by kernel_rfl)) h0 bel lt0) trodAll_mk0), rfl, bel.frame _, fun h => by cases h⟩

theorem over : Rows.stateFieldsRow.holds Tryz.pinned (OpenSpec.ofChange Rows.stateFieldsSpec) :=
  OpenClaim.holds_of_wide 5 Tryz.f5 rfl rfl rfl rfl rfl rfl rfl ⟨rfl, rfl, rfl, rfl, rfl⟩ rfl rfl rfl rfl rfl (by kernel_rfl) Tryz.func5 (by kernel_rfl)
    (of_decide_eq_true (by kernel_rfl)) (by unfold Func.isWrapper; first | (rw [if_pos (by decide +kernel)]; kernel_rfl) | (rw [if_neg (by decide +kernel)]; exact ⟨rfl, rfl⟩))
    (fun os started H enc _ => lifted os started H enc)

/-- the statement -/
theorem proved : Rows.StateFieldsCardSaid :=
  Claim7.holds_tied_plain_at .later [] [.data, .data, .data, .data, .sentinel, .sentinel, .pinned] true Rows.stateFieldsCard.stood.harness true
    over (fun _ h => by cases h) (by kernel_rfl) (fun _ h => by cases h) stateFields_row_tie rfl ⟨rfl, rfl⟩ (by kernel_rfl) rfl
    (fun f fn hf hfn => by
      obtain rfl : f = 5 := Option.some.inj ((show Tryz.prog.funcNamed "palinode/palinodelaw20.StateFields" = some 5 by kernel_rfl).symm.trans hf) |>.symm
      obtain rfl : fn = Tryz.f5 := (Option.some.inj (Tryz.func5.symm.trans hfn)).symm
      exact ⟨by kernel_rfl, fun j t ht => by
        rw [Tryz.params5] at ht
        have hm : t ∈ [34] := by simpa using Array.mem_of_getElem? ht
        have hall : ([34].all fun u => !Tryz.prog.wantsStandIn u) = true := by kernel_rfl
        exact (show Tryz.prog.wantsStandIn t = false by simpa using List.all_eq_true.1 hall t hm)⟩)
    (by kernel_rfl)
#print axioms proved
end Go.Proofs.YtepdfkgadigafaaGreatDoor.stateFields
