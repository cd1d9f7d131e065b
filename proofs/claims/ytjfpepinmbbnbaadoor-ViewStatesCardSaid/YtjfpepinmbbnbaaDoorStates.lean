/-
  The walk of the law ViewStates, of chapter 30: the pieces.
  Conditions: the table of powers of ten lies as laid ('Pow').
-/
import Derived.Test.YtjfpepinmbbnbaaDoorWh2
import Derived.Test.YtjfpepinmbbnbaaDoorRSh1
import Derived.Test.YtjfpepinmbbnbaaDoorRShR
import Derived.Test.YtjfpepinmbbnbaaDoorShowV
import Derived.Test.YtjfpepinmbbnbaaDoorRows30
import Derived.Test.YtjfpepinmbbnbaaDoorFile
import Derived.Test.YtjfpepinmbbnbaaDoorRaw
namespace Go.Proofs.YtjfpepinmbbnbaaDoor
open Go.RowKit
set_option linter.unusedVariables false
set_option linter.unusedSimpArgs false
/-- the reference's Show at any word -/
theorem rshow_any (s : StC) (b : StB) (what : ByteArray) (w : World) (hst : StAt w s b) :
    Calls Tryd.prog 37 #[.agg s.cells.toArray, .string what] w (ShowIs (showS s b what) w) := by
  unfold showS
  by_cases h1 : (what == ⟨#[112, 97, 116, 116, 101, 114, 110]⟩) = true
  · rw [if_pos h1, ba_eq h1]; exact rshow_pat s b w hst
  rw [if_neg h1]
  by_cases h2 : (what == ⟨#[104, 111, 108, 100]⟩) = true
  · rw [if_pos h2, ba_eq h2]; exact rshow_hold s b w hst
  rw [if_neg h2]
  by_cases h3 : (what == ⟨#[114, 101, 115, 116]⟩) = true
  · rw [if_pos h3, ba_eq h3]; exact rshow_rest s b w hst
  rw [if_neg h3]
  by_cases h4 : (what == ⟨#[111, 117, 116]⟩) = true
  · rw [if_pos h4, ba_eq h4]; exact rshow_out s b w hst
  rw [if_neg h4]
  by_cases h5 : (what == ⟨#[112, 108, 97, 99, 101]⟩) = true
  · rw [if_pos h5, ba_eq h5]; exact rshow_place s b w hst
  rw [if_neg h5]
  by_cases h6 : (what == ⟨#[114, 101, 103, 115]⟩) = true
  · rw [if_pos h6, ba_eq h6]; exact rshow_regs s hst.ok w
  rw [if_neg h6]
  by_cases h7 : (what == ⟨#[119, 97, 105, 116, 115]⟩) = true
  · rw [if_pos h7, ba_eq h7]; exact rshow_waits s b w hst
  rw [if_neg h7]
  by_cases h8 : (what == ⟨#[102, 105, 108, 101, 115]⟩) = true
  · rw [if_pos h8, ba_eq h8]; exact rshow_files s b w hst
  rw [if_neg h8]
  exact rshow_none _ what (by simpa using h1) (by simpa using h2) (by simpa using h3) (by simpa using h4) (by simpa using h5) (by simpa using h6) (by simpa using h7) (by simpa using h8) w
/-- the load of a whole state, by a name: the walk then takes it from one fact -/
noncomputable def stLoad (a : Addr) : Sem Value := loadVar 66 a
theorem load_st (a : Addr) : loadVar 66 a = stLoad a := rfl
theorem stLoad_is (s : StC) {w : World} {g : Nat} (h : w.heap[g]? = some (.cells s.cells.toArray 66 (0, 0))) : (stLoad ⟨g, 0, none⟩).run Tryd.prog w = .ok (.agg s.cells.toArray) w :=
  run_loadVar_row w g 66 66 s.cells.toArray (0, 0) _ h Tryd.underlying66 rfl (by kernel_rfl)
/-- a whole block is loaded, at a step of a region that draws its order -/
theorem step_load_row {P : Program} {ops : Array Oper} {o : Oper} {a : Act} {w : World} {K : Act → World → Prop} {Q : Exit → Act → World → Prop} {E : Prop} (hgd : o.guard = none) (ty : TypeId) (x : Operand) (ho : o.op = .load ty x)
    (g : Nat) (hx : a.eval x = .pointer (some ⟨g, 0, none⟩)) (t : TypeId) (cs : Array Value) (fr : Nat × Nat) (d : TypeDesc) (hg : w.heap[g]? = some (.cells cs t fr))
    (hu : P.underlying ty = some d) (hd : (match d with | .struct _ | .array _ _ => true | _ => false) = true) (hi : (P.info? ty).map (·.size) = some cs.size)
    (h : K (a.put o.dst (.agg cs)) w) : if Region.wanted o (yielded ops a.tmps) = true then Oper.wp P o a w K Q else E := by
  have hw : Region.wanted o (yielded ops a.tmps) = true := by simp [Region.wanted, hgd]
  rw [if_pos hw]
  exact wp_load_row ty x ho g hx t cs fr d hg hu hd hi h
theorem WaitsRaw.below {w w' : World} {a : Option Addr} {l : List Wt} (h : WaitsRaw w a l) (hb : Below w.heap.size w w') : WaitsRaw w' a l := fun h0 => by
  obtain ⟨b, o, e, hl, hr⟩ := h h0
  refine ⟨b, o, e, Nat.lt_of_lt_of_le hl hb.size, fun i hi => ?_⟩
  obtain ⟨h1, h2, h3, h4⟩ := hr i hi
  exact ⟨(hb.cell (p := ⟨b, o + i * 2, none⟩) hl).trans h1, (hb.cell (p := ⟨b, o + i * 2 + 1, none⟩) hl).trans h2, h3.below hb, h4⟩
theorem FilesRaw.below {w w' : World} {a : Option Addr} {l : List Fb} (h : FilesRaw w a l) (hb : Below w.heap.size w w') : FilesRaw w' a l := fun h0 => by
  obtain ⟨b, o, e, hl, hr⟩ := h h0
  refine ⟨b, o, e, Nat.lt_of_lt_of_le hl hb.size, fun i hi => ?_⟩
  obtain ⟨h1, h2, h3, h4⟩ := hr i hi
  exact ⟨(hb.cell (p := ⟨b, o + i * 2, none⟩) hl).trans h1, (hb.cell (p := ⟨b, o + i * 2 + 1, none⟩) hl).trans h2, h3.below hb, h4⟩
theorem RawAt.below {w w' : World} {s : StC} {b : StB} (h : RawAt w s b) (hb : Below w.heap.size w w') : RawAt w' s b :=
  { h with
    patAt := h.patAt.below hb, holdAt := h.holdAt.below hb, restAt := h.restAt.below hb, outAt := h.outAt.below hb, placeAt := h.placeAt.below hb,
    waitsAt := h.waitsAt.below hb, filesAt := h.filesAt.below hb }
end Go.Proofs.YtjfpepinmbbnbaaDoor
