/-
  A whole command is loaded, or stored; a parser and a command of its own; of chapter 16.
  Conditions: as each theorem states them.
-/
import Derived.Test.YtepdfkgadigafaaGreatDoorPa1
import Derived.Test.YtepdfkgadigafaaGreatDoorStA
namespace Go.Proofs.YtepdfkgadigafaaGreatDoor
open Go.RowKit
set_option linter.unusedVariables false
set_option linter.unusedSimpArgs false
noncomputable def cmLoad (a : Addr) : Sem Value := loadVar 168 a
theorem load_cm (a : Addr) : loadVar 168 a = cmLoad a := rfl
theorem cmLoad_is (C : List Value) (hC : C.length = 21) {w : World} {g : Nat} (h : Blk w g 168 C) : (cmLoad ⟨g, 0, none⟩).run Tryz.prog w = .ok (.agg C.toArray) w :=
  run_loadVar_row w g 168 168 C.toArray (0, 0) _ h Tryz.underlying168 rfl (by rw [List.size_toArray, hC]; kernel_rfl)
noncomputable def cmStore (a : Addr) (v : Value) : Sem Unit := storeVar 168 a v
theorem store_cm (a : Addr) (v : Value) : storeVar 168 a v = cmStore a v := rfl
/-- a store of a row over a row: plain law -/
theorem storeRow {w : World} {g T n : Nat} {old : List Value} (C : List Value) (hC : C.length = n) (h1 : ∀ u ∈ C, u.oneCell' = true) (h : Blk w g T old) (hl : old.length = n) (hi : (Tryz.prog.info? T).map (·.size) = some n) :
    ∃ w', (storeVar T ⟨g, 0, none⟩ (.agg C.toArray)).run Tryz.prog w = .ok () w' ∧ Blk w' g T C ∧ Only (fun k => k = g) w w' := by
  have := run_storeVar_mid (P := Tryz.prog) w g 0 T C.toArray (fun j hj => ⟨by
    rw [Nat.zero_add, h.cell, List.getElem?_eq_getElem (by simp only [List.size_toArray] at hj; omega)]; rfl, by rw [Nat.zero_add]; exact h.free _⟩) (by simp only [List.size_toArray, hC]; exact hi) (all_oneCell_toArray h1)
  refine ⟨_, this, ?_, only_setCells _ 0 w⟩
  simp only
  obtain ⟨c', h2, h3, _⟩ := Blk.setCells C 0 h
  have hc : c' = C := by
    apply List.ext_getElem?
    intro i
    by_cases hi : i < n
    · have hr := World.rangeAt_setCells_same w g 0 C (fun j hj => ⟨by
        rw [Nat.zero_add, h.cell, List.getElem?_eq_getElem (by omega)]; rfl, by rw [Nat.zero_add]; exact h.free _⟩) i _ (List.getElem?_eq_getElem (by omega))
      rw [Nat.zero_add, h2.cell] at hr
      rw [hr, List.getElem?_eq_getElem]
    · rw [List.getElem?_eq_none (by omega), List.getElem?_eq_none (by omega)]
  rw [hc] at h2
  exact h2
theorem cmStore_is {w : World} {g : Nat} {old : List Value} (C : List Value) (hC : C.length = 21) (h1 : ∀ u ∈ C, u.oneCell' = true) (h : Blk w g 168 old) (hl : old.length = 21) :
    ∃ w', (cmStore ⟨g, 0, none⟩ (.agg C.toArray)).run Tryz.prog w = .ok () w' ∧ Blk w' g 168 C ∧ Only (fun k => k = g) w w' :=
  storeRow C hC h1 h hl (by kernel_rfl)
/-- a command's cells, all zero -/
abbrev cmZ : List Value := [.int .i64 0, .int .i64 0, .int .i64 0, .int .i64 0, .int .i64 0, .int .i64 0, .bool false, .int .u8 0, .int .i64 0, .int .i64 0, .slice none 0 0, .string ⟨#[]⟩, .int .i64 0, .slice none 0 0, .bool false, .bool false, .int .i64 0, .int .i64 0, .int .i64 0, .slice none 0 0, .slice none 0 0]
theorem fold_set : ∀ (C : List Value) (k : Nat) (A : List Value), k + C.length = A.length → List.foldl (fun (cs : Array Value) (x : Value × Nat) => cs.setIfInBounds x.snd x.fst) A.toArray (C.zipIdx k) = (A.take k ++ C).toArray
  | [], k, A, h => by
    simp only [List.length_nil, Nat.add_zero] at h
    simp [h]
  | c :: C, k, A, h => by
    simp only [List.length_cons] at h
    rw [List.zipIdx_cons, List.foldl_cons]
    simp only [List.setIfInBounds_toArray]
    rw [fold_set C (k + 1) (A.set k c) (by rw [List.length_set]; omega)]
    congr 1
    rw [List.take_succ_eq_append_getElem (by rw [List.length_set]; omega), List.take_set_of_le (Nat.le_refl k), List.getElem_set_self]
    simp
theorem build_cm (C : List Value) (h : C.length = 21) : List.foldl (fun (cs : Array Value) (x : Value × Nat) => cs.setIfInBounds x.snd x.fst) #[.int .i64 0, .int .i64 0, .int .i64 0, .int .i64 0, .int .i64 0, .int .i64 0, .bool false, .int .u8 0, .int .i64 0, .int .i64 0, .slice none 0 0, .string ⟨#[]⟩, .int .i64 0, .slice none 0 0, .bool false, .bool false, .int .i64 0, .int .i64 0, .int .i64 0, .slice none 0 0, .slice none 0 0] C.zipIdx = C.toArray :=
  fold_set C 0 cmZ (by rw [h]; rfl)
/-- a new command -/
theorem cm_new (w : World) (C : List Value) (hC : C.length = 21) (h1 : ∀ u ∈ C, u.oneCell' = true) :
    ∃ w', (cmStore ⟨w.heap.size, 0, none⟩ (.agg C.toArray)).run Tryz.prog (w.alloc (.cells cmZ.toArray 168)) = .ok () w' ∧ Blk w' w.heap.size 168 C ∧ Below w.heap.size w w' := by
  obtain ⟨w', h1, h2, h3⟩ := cmStore_is C hC h1 (w := w.alloc (.cells cmZ.toArray 168)) (g := w.heap.size) (Blk.new w _ _) rfl
  exact ⟨w', h1, h2, Below.trans (bl_alloc (Below.refl _ _) _) (Only.below h3 (by simp) (fun i hi => by rw [hi]; exact Nat.le_refl _))⟩
theorem own_set9 {X : World} {N e k n : Nat} {v : Value} {xs : List Value} (h : X.ownsRow N e k v n xs) {q : Addr} (hq : q.block < N) (u : Value) : (X.setCell q u).ownsRow N e k v n xs := by
  obtain ⟨hl, h⟩ := h
  rcases h with ⟨rfl, rfl⟩ | ⟨g, cap, cur, rfl, hg, hb', hk, hc, hs, rfl⟩
  · exact ⟨hl, .inl ⟨rfl, rfl⟩⟩
  · exact ⟨hl, .inr ⟨g, cap, cur, rfl, hg, (Below.heap_setCell _ _ _ _ (by omega)).trans hb', hk, hc, hs, rfl⟩⟩
/-- a parser, and a command that its call made -/
structure CmAt (w0 : World) (p g : Nat) (ba : Option Addr) (c : Nat) (s : List UInt8) (rest : List Value) (k : Nat) (C : List Value) (X : World) : Prop where
  pa : PaAt X p g ba c s k rest
  cm : Blk X w0.heap.size 168 C
  only : Only (fun j => j = g) w0 X
  pl : p < w0.heap.size
  gl : g < w0.heap.size
section
variable {w0 : World} {p g : Nat} {ba : Option Addr} {c : Nat} {s : List UInt8} {rest : List Value} {k : Nat} {C : List Value} {X X' : World}
theorem CmAt.below (h : CmAt w0 p g ba c s rest k C X) (hb : Below X.heap.size X X') : CmAt w0 p g ba c s rest k C X' :=
  ⟨h.pa.below hb, h.cm.below hb, h.only.trans (Only.of_below hb), h.pl, h.gl⟩
theorem CmAt.move (h : CmAt w0 p g ba c s rest k C X) {j : Nat} (hp : PaAt X' p g ba c s j rest) (ho : Only (fun i => i = g) X X') : CmAt w0 p g ba c s rest j C X' :=
  ⟨hp, h.cm.only ho (by have := h.gl; omega), h.only.trans ho, h.pl, h.gl⟩
theorem CmAt.step (h : CmAt w0 p g ba c s rest k C X) {j : Nat} (hc : CuAt X' g ba c s j) (ho : Only (fun i => i = g) X X') : CmAt w0 p g ba c s rest j C X' := h.move (h.pa.go hc ho) ho
theorem CmAt.set (h : CmAt w0 p g ba c s rest k C X) (hne : ∀ b o, ba = some ⟨b, o, none⟩ → b < w0.heap.size) (j : Nat) (v : Value) : CmAt w0 p g ba c s rest k (C.set j v) (X.setCell ⟨w0.heap.size, j, none⟩ v) := by
  have h1 := h.pl
  have h2 := h.gl
  refine ⟨⟨h.pa.pa.set_other (by simp only; omega) v, ⟨h.pa.cu.cu.set_other (by simp only; omega) v, fun h0 => ?_, h.pa.cu.ne, h.pa.cu.le, h.pa.cu.len, h.pa.cu.cap⟩, h.pa.ne⟩, h.cm.set j v, ?_, h1, h2⟩
  · obtain ⟨b, o, e, hb, hr⟩ := h.pa.cu.by_ h0
    refine ⟨b, o, e, by simpa using hb, fun i hi => ?_⟩
    have := hne b o e
    rw [World.cell?_of_block (a := ⟨b, o + i, none⟩) (Below.heap_setCell _ _ _ _ (by simp only; omega))]
    exact hr i hi
  · have ho := h.only
    exact ⟨ho.os, ho.tape, ho.output, Nat.le_trans ho.size (by simp [World.setCell]), fun i hi hn => (Below.heap_setCell _ _ _ _ (by simp only; omega)).trans (ho.block i hi hn)⟩
theorem PaAt.put (h : PaAt X p g ba c s k rest) (hne : ∀ b o, ba = some ⟨b, o, none⟩ → b ≠ p) (j : Nat) (v : Value) : PaAt (X.setCell ⟨p, j + 1, none⟩ v) p g ba c s k (rest.set j v) := by
  refine ⟨h.pa.set (j + 1) v, ⟨h.cu.cu.set_other (by simpa using h.ne) v, fun h0 => ?_, h.cu.ne, h.cu.le, h.cu.len, h.cu.cap⟩, h.ne⟩
  obtain ⟨b, o, e, hb, hr⟩ := h.cu.by_ h0
  refine ⟨b, o, e, by simpa using hb, fun i hi => ?_⟩
  have := hne b o e
  rw [World.cell?_of_block (a := ⟨b, o + i, none⟩) (Below.heap_setCell _ _ _ _ (by simpa using this))]
  exact hr i hi
theorem CmAt.cur (h : CmAt w0 p g ba c s rest k C X) : X.cell? ⟨p, 0, none⟩ = some (.pointer (some ⟨g, 0, none⟩)) := h.pa.pa.cell 0
end
end Go.Proofs.YtepdfkgadigafaaGreatDoor
