/-
  A whole state is loaded, or stored.
  Conditions: as each theorem states them.
-/
import Derived.Test.YtfidmpkblmebeaaGrI
import Derived.Laws.Rows
import Derived.Deep.MidRow
namespace Go.Proofs.Ytfidmpkblmebeaa
open Go.RowKit
set_option linter.unusedVariables false
set_option linter.unusedSimpArgs false
noncomputable def stLoad (a : Addr) : Sem Value := loadVar 43 a
theorem load_st (a : Addr) : loadVar 43 a = stLoad a := rfl
theorem stLoad_is (s : StC) {w : World} {g : Nat} (h : w.heap[g]? = some (.cells s.cells.toArray 43 (0, 0))) : (stLoad ⟨g, 0, none⟩).run Try.prog w = .ok (.agg s.cells.toArray) w :=
  run_loadVar_row w g 43 43 s.cells.toArray (0, 0) _ h Try.underlying43 rfl (by kernel_rfl)
noncomputable def stStore (a : Addr) (v : Value) : Sem Unit := storeVar 43 a v
theorem store_st (a : Addr) (v : Value) : storeVar 43 a v = stStore a v := rfl
theorem Blk.setCells {g : Nat} {t : TypeId} : ∀ (vs : List Value) (o : Nat) {w : World} {c : List Value} (h : Blk w g t c), ∃ c', Blk (w.setCells g o vs) g t c' ∧ c'.length = c.length ∧ c'.take o = c.take o
  | [], o, w, c, h => ⟨c, h, rfl, rfl⟩
  | v :: vs, o, w, c, h => by
    obtain ⟨c', h1, h2, h3⟩ := Blk.setCells vs (o + 1) (h.set o v)
    refine ⟨c', h1, by rw [h2, List.length_set], ?_⟩
    have := congrArg (List.take o) h3
    rw [List.take_take, List.take_take, Nat.min_eq_left (Nat.le_succ o), List.take_set_of_le (Nat.le_refl o)] at this
    exact this
theorem only_setCells {g : Nat} : ∀ (vs : List Value) (o : Nat) (w : World), Only (fun k => k = g) w (w.setCells g o vs)
  | [], o, w => Only.refl _ w
  | v :: vs, o, w => ((Only.refl (fun k => k = g) w).setCell (p := ⟨g, o, none⟩) rfl v).trans (only_setCells vs (o + 1) _)
theorem StC.one (s : StC) : ∀ u ∈ s.cells, u.oneCell' = true := by
  intro u hu
  simp only [StC.cells, Sl3.v, List.mem_cons, List.not_mem_nil, or_false] at hu
  rcases hu with rfl | rfl | rfl | rfl | rfl | rfl | rfl | rfl | rfl | rfl | rfl | rfl | rfl | rfl | rfl | rfl | rfl | rfl | rfl | rfl | rfl | rfl | rfl | rfl | rfl | rfl | rfl <;> rfl
theorem StC.len (s : StC) : s.cells.length = 27 := rfl
/-- a whole state's store -/
theorem stStore_is {w : World} {g : Nat} {old : List Value} (s : StC) (h : Blk w g 43 old) (hl : old.length = 27) :
    ∃ w', (stStore ⟨g, 0, none⟩ (.agg s.cells.toArray)).run Try.prog w = .ok () w' ∧ Blk w' g 43 s.cells ∧ Only (fun k => k = g) w w' := by
  have h1 := s.one
  have hC := s.len
  generalize s.cells = C at *
  have := run_storeVar_mid (P := Try.prog) w g 0 43 C.toArray (fun j hj => ⟨by
    rw [Nat.zero_add, h.cell, List.getElem?_eq_getElem (by simp only [List.size_toArray] at hj; omega)]; rfl, by rw [Nat.zero_add]; exact h.free _⟩) (by simp only [List.size_toArray, hC]; kernel_rfl) (all_oneCell_toArray h1)
  refine ⟨_, this, ?_, only_setCells _ 0 w⟩
  simp only
  obtain ⟨c', h2, h3, _⟩ := Blk.setCells C 0 h
  have hc : c' = C := by
    apply List.ext_getElem?
    intro i
    by_cases hi : i < 27
    · have hr := World.rangeAt_setCells_same w g 0 C (fun j hj => ⟨by
        rw [Nat.zero_add, h.cell, List.getElem?_eq_getElem (by omega)]; rfl, by rw [Nat.zero_add]; exact h.free _⟩) i _ (List.getElem?_eq_getElem (by omega))
      rw [Nat.zero_add, h2.cell] at hr
      rw [hr, List.getElem?_eq_getElem]
    · rw [List.getElem?_eq_none (by omega), List.getElem?_eq_none (by omega)]
  rw [hc] at h2
  exact h2
end Go.Proofs.Ytfidmpkblmebeaa
