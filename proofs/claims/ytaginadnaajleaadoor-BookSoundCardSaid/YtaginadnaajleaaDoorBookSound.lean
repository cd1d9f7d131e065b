/-
  The statement of palinodelaw32.BookSound: whatever the input, the call returns true and its arguments read as before.
  Conditions: none. The frame round the walk ('bookSound_walk'), which says the same of values in memory.
-/
import Derived.Test.YtaginadnaajleaaDoorSnd
import Derived.Test.YtaginadnaajleaaDoorReads
import Derived.Test.YtaginadnaajleaaDoorLaid
import Derived.Test.YtaginadnaajleaaDoorTie
import Derived.Test.YtaginadnaajleaaDoorCards
import Derived.SevenTiedAt
import Derived.ChangeVars
import Derived.JoinedOf
namespace Go.Proofs.YtaginadnaajleaaDoor.bookSound
open Go.ChangeShapes Go.WideShapes Go.ChangeAt Go.RowKit
open Go.ChangeMaps (open_string shut_string)
set_option linter.unusedVariables false

theorem own : ownKnob Tryd.prog.godebug = none := by kernel_rfl
theorem laidOut : laidOutB Tryd.prog = true := by kernel_rfl
set_option maxRecDepth 100000 in
theorem lifted (os : Os) (started : os.Started) (H : Type) (enc : TypeId × Value → H) :
    ReturnsInHanded {} Tryd.checked os 4 .any (fun w args => (Rows.bookSoundSpec.pre enc Tryd.prog Tryd.f4 [] false w args ∧ laidMetH Tryd.prog laidAll w) ∧ sizedMet enc Tryd.prog Tryd.f4 (OpenSpec.ofChange Rows.bookSoundSpec) false w args) (Rows.bookSoundSpec.post enc Tryd.prog Tryd.f4 false true false false) := by
  refine returnsInHanded_of_change_and (C := Tryd.checked) (X := fun w _ => laidMetH Tryd.prog laidAll w) (fun _ _ _ hh h => h.of_heap hh) own started (by kernel_rfl) Tryd.func4
    (ChangeSpec.witness_shaped (enc := enc) (C := Tryd.checked) (os := os) (X := fun w _ => laidMetH Tryd.prog laidAll w) false (World.doorLaid Tryd.prog 400 os) #[.agg #[.slice none 0 0, .bool false, .bool false, .bool false, .bool false, .slice none 0 0, .slice none 0 0, .int .i64 0, .int .i64 0, .int .i64 0, .slice none 0 0]] 8 rfl (door_shaped os _) (by kernel_rfl) (by kernel_rfl) (by kernel_rfl) (door_met os _)) ?_
  intro W base args ds gs before hval0 hW _ _ hL _
  have hval : ∀ (j : Nat) t v, Tryd.f4.params[j]? = some t → args[j]? = some v → Value.okWide Tryd.prog W .any base t v := hval0
  have hW' := hW
  obtain ⟨p, q, hA0, hV, rfl, hfz, hnd⟩ := hW
  have hA : DataW.TrodAll enc Tryd.prog W 0 (fun _ => true) true Tryd.f4.params.toList args.toList ds p := hA0
  rw [Tryd.params4] at hA hval
  obtain ⟨v0, vs0, d0, ds0, p0, q0, hargs, rfl, rfl, h0, r0⟩ := trodAll_cons hA
  obtain ⟨rfl, rfl, rfl⟩ := trodAll_nil r0
  obtain rfl : args = #[v0] := by cases args; simp_all
  obtain ⟨rfl, rfl⟩ := trodVars_none hV
  obtain ⟨cs0, rfl, sz0⟩ := okWide_struct Tryd.underlying29 (hval 0 29 v0 rfl rfl)
  have lt0 : ∀ x ∈ p0, x.block < W.heap.size := by obtain ⟨m, hm⟩ := h0; exact DataW.trod_lt m _ _ _ hm
  obtain ⟨x0, rd0⟩ := Reads.trod (A := (rPair (rSl rByte) (rPair (rPair rBool (rPair rBool (rPair rBool (rPair rBool (rPair (rSl rStr) rUnit))))) (rPair (rSl (rPair rStr (rPair (rSl rByte) rUnit))) (rPair (rInt .i64) (rPair (rInt .i64) (rPair (rInt .i64) (rPair (rSl rStr) rUnit)))))))) (Reads.struct Tryd.underlying29 (by kernel_rfl) (FieldsRead.cons rfl (by kernel_rfl) (Reads.slice Tryd.underlying23 (by kernel_rfl) (by decide) (Reads.byte Tryd.underlying5)) (FieldsRead.cons rfl (by kernel_rfl) (Reads.struct Tryd.underlying26 (by kernel_rfl) (FieldsRead.cons rfl (by kernel_rfl) (Reads.bool Tryd.underlying4) (FieldsRead.cons rfl (by kernel_rfl) (Reads.bool Tryd.underlying4) (FieldsRead.cons rfl (by kernel_rfl) (Reads.bool Tryd.underlying4) (FieldsRead.cons rfl (by kernel_rfl) (Reads.bool Tryd.underlying4) (FieldsRead.cons rfl (by kernel_rfl) (Reads.slice Tryd.underlying24 (by kernel_rfl) (by decide) (Reads.str Tryd.underlying9)) FieldsRead.nil)))))) (FieldsRead.cons rfl (by kernel_rfl) (Reads.slice Tryd.underlying27 (by kernel_rfl) (by decide) (Reads.struct Tryd.underlying52 (by kernel_rfl) (FieldsRead.cons rfl (by kernel_rfl) (Reads.str Tryd.underlying9) (FieldsRead.cons rfl (by kernel_rfl) (Reads.slice Tryd.underlying23 (by kernel_rfl) (by decide) (Reads.byte Tryd.underlying5)) FieldsRead.nil)))) (FieldsRead.cons rfl (by kernel_rfl) (Reads.int Tryd.underlying3) (FieldsRead.cons rfl (by kernel_rfl) (Reads.int Tryd.underlying3) (FieldsRead.cons rfl (by kernel_rfl) (Reads.int Tryd.underlying3) (FieldsRead.cons rfl (by kernel_rfl) (Reads.slice Tryd.underlying24 (by kernel_rfl) (by decide) (Reads.str Tryd.underlying9)) FieldsRead.nil)))))))) h0
  clear hA0 hval0
  refine ((bookSound_walk W (pow_of_laid hL) cs0 x0 rd0)).mono fun e W' ⟨he, bel⟩ => ?_
  subst he
  exact ⟨_, rfl, _, _, _, [], _, [], hW', trodAll_mk1 (shut_bool Tryd.underlying4 _), (trodAll_cons_mk (Below.trod laidOut (by kernel_rfl) (of_decide_eq_true (by kernel_rfl)) h0 bel lt0) trodAll_mk0), rfl, bel.frame _, fun h => by cases h⟩

theorem over : Rows.bookSoundRow.holds Tryd.pinned (OpenSpec.ofChange Rows.bookSoundSpec) :=
  OpenClaim.holds_of_wide 4 Tryd.f4 rfl rfl rfl rfl rfl rfl rfl ⟨rfl, rfl, rfl, rfl, rfl⟩ rfl rfl rfl rfl rfl (by kernel_rfl) Tryd.func4 (by kernel_rfl)
    (of_decide_eq_true (by kernel_rfl)) (by unfold Func.isWrapper; first | (rw [if_pos (by decide +kernel)]; kernel_rfl) | (rw [if_neg (by decide +kernel)]; exact ⟨rfl, rfl⟩))
    (fun os started H enc _ => lifted os started H enc)

/-- the statement -/
theorem proved : Rows.BookSoundCardSaid :=
  Claim7.holds_tied_plain_at .later [] [.data, .data, .data] true Rows.bookSoundCard.stood.harness false
    over (fun _ h => by cases h) (by kernel_rfl) (fun _ h => by cases h) bookSound_row_tie rfl ⟨rfl, rfl⟩ (by kernel_rfl) rfl
    (fun f fn hf hfn => by
      obtain rfl : f = 4 := Option.some.inj ((show Tryd.prog.funcNamed "palinode/palinodelaw32.BookSound" = some 4 by kernel_rfl).symm.trans hf) |>.symm
      obtain rfl : fn = Tryd.f4 := (Option.some.inj (Tryd.func4.symm.trans hfn)).symm
      exact ⟨by kernel_rfl, fun j t ht => by
        rw [Tryd.params4] at ht
        have hm : t ∈ [29] := by simpa using Array.mem_of_getElem? ht
        have hall : ([29].all fun u => !Tryd.prog.wantsStandIn u) = true := by kernel_rfl
        exact (show Tryd.prog.wantsStandIn t = false by simpa using List.all_eq_true.1 hall t hm)⟩)
    (by kernel_rfl)
#print axioms proved
end Go.Proofs.YtaginadnaajleaaDoor.bookSound
