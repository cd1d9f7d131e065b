/-
  What comes in as data reads as a Lean value ('Rp'), with the reach: no string and no slice is longer than the reach says.
  Conditions: none; plain lemmas over whatever program.
-/
import Derived.Test.YtepdfkgadigafaaGreatDoorReads
import Derived.SizedLaws
namespace Go.Proofs.YtepdfkgadigafaaGreatDoor
open Go.ChangeShapes Go.WideShapes Go.ChangeAt Go.RowKit
set_option linter.unusedVariables false
set_option linter.unusedSimpArgs false
def ReadsW {α : Type} (P : Program) (A : Rp α) (t : TypeId) : Prop :=
  ∀ {H : Type} (enc : TypeId × Value → H) (W : World) (fuel : Nat) (cs : List Value) (x : DataW H × List MemPlace),
    DataW.trod enc P W 0 (fun _ => true) true fuel t cs = some x → (∀ n ∈ x.1.weights P t, n ≤ reachBytes) → ∃ a, A.ok (Sub.all W) cs a
theorem Reads.w {α : Type} {P : Program} {A : Rp α} {t : TypeId} (h : Reads P A t) : ReadsW P A t := fun enc W fuel cs x hx _ => h enc W fuel cs x hx
/-- a string within the reach -/
def rStrB : Rp (List UInt8) where
  n := 1
  ok := fun _ cs x => ∃ s : ByteArray, cs = [.string s] ∧ s.data.toList = x ∧ s.size ≤ reachBytes
  len := fun h => by obtain ⟨s, h, _⟩ := h; rw [h]; rfl
  mono := fun _ h => h
/-- a slice within the reach -/
def rSlB {α : Type} (A : Rp α) : Rp (List α) where
  n := 1
  ok := fun S cs xs => (rSl A).ok S cs xs ∧ xs.length ≤ reachBytes
  len := fun h => (rSl A).len h.1
  mono := fun hl h => ⟨(rSl A).mono hl h.1, h.2⟩
theorem ReadsW.str {P : Program} {t : TypeId} (ht : P.underlying t = some .string) : ReadsW P rStrB t := by
  intro H enc W fuel cs x h hw
  obtain ⟨s, h1, rfl, h2⟩ := DataW.trod_string ht h
  refine ⟨s.data.toList, s, h1, rfl, ?_⟩
  have := hw s.data.toList.length (by simp [DataW.weights])
  rwa [Array.length_toList] at this
theorem weightsAll_mem {H : Type} {P : Program} {e : TypeId} {d : DataW H} : ∀ {l : List (DataW H)}, d ∈ l → ∀ n ∈ d.weights P e, n ∈ DataW.weightsAll P e l
  | [], h, _, _ => by cases h
  | d0 :: l, h, n, hn => by
    rw [DataW.weightsAll, List.mem_append]
    rcases List.mem_cons.1 h with rfl | h
    · exact .inl hn
    · exact .inr (weightsAll_mem h n hn)
theorem ReadsW.slice {α : Type} [Inhabited α] {P : Program} {A : Rp α} {t e : TypeId} (ht : P.underlying t = some (.slice e)) (hc : P.cellsOf e = A.n) (hpos : 0 < A.n) (hby : 0 < P.bytesOf e) (hA : ReadsW P A e) : ReadsW P (rSlB A) t := by
  intro H enc W fuel cs x h hwt
  rcases Deep.open_slice ht h with ⟨rfl, _⟩ | ⟨a, len, cap, m, n, D, Pl, rfl, _, hl, hm, hmm, hx2, hel⟩
  · exact ⟨[], ⟨none, 0, rfl, by simp, by simp [maxLen], fun h => by simp at h⟩, by simp⟩
  · have hm' : m = cap := by simpa using hmm
    subst hm'
    have hlenR : len ≤ reachBytes := by
      have h3 := hwt ((((List.range len).map D).length + ((List.range (m - len)).map fun j => D (len + j)).length) * P.bytesOf e) (by rw [hx2]; simp only [DataW.weights, ht]; exact List.mem_cons_self)
      simp only [List.length_map, List.length_range] at h3
      have h4 : len * 1 ≤ (len + (m - len)) * P.bytesOf e := Nat.mul_le_mul (by omega) hby
      omega
    have hwD : ∀ i, i < len → ∀ k ∈ (D i).weights P e, k ≤ reachBytes := fun i hi k hk => hwt k (by
      rw [hx2]
      simp only [DataW.weights, ht]
      refine List.mem_cons_of_mem _ (List.mem_append.2 (.inl ?_))
      exact weightsAll_mem (List.mem_map.2 ⟨i, List.mem_range.2 hi, rfl⟩) k hk)
    have hx : ∀ i, i < len → ∃ y : α × List Value, A.ok (Sub.all W) y.2 y.1 ∧ W.cells? 0 (a.add (i * A.n)) A.n = some y.2 := by
      intro i hi
      obtain ⟨cs', h1, h2⟩ := hel i (by omega)
      obtain ⟨y, hy⟩ := hA enc W n cs' _ h2 (hwD i hi)
      rw [hc] at h1
      exact ⟨(y, cs'), hy, h1⟩
    obtain ⟨f, hf⟩ := Deep.choose_lt (α := α × List Value) hx
    have hlen : ((List.range len).map fun i => (f i).1).length = len := by simp
    refine ⟨(List.range len).map fun i => (f i).1, ⟨some a, m, by rw [hlen], by rw [hlen]; exact hl, hm, fun h0 => ?_⟩, by rw [hlen]; exact hlenR⟩
    rw [hlen] at h0
    have cellsOf : ∀ i, i < len → (f i).2.length = A.n ∧ ∀ j, j < A.n → W.cell? ((a.add (i * A.n)).add j) = (f i).2[j]? := by
      intro i hi
      have h1 := (hf i hi).2
      simp only [World.cells?, Nat.zero_le, if_true] at h1
      rw [List.range_eq_range'] at h1
      have := mapM_cells _ 0 _ h1
      exact ⟨this.1, fun j hj => by have := this.2 j hj; rwa [Nat.zero_add] at this⟩
    obtain ⟨b, off, spot⟩ := a
    have hsp : spot = none := by
      have h1 := (cellsOf 0 h0).2 0 hpos
      have h2 := (cellsOf 0 h0).1
      rw [Nat.zero_mul] at h1
      have h3 : ((⟨b, off, spot⟩ : Addr).add 0).add 0 = ⟨b, off, spot⟩ := by simp [Addr.add]
      rw [h3] at h1
      have h4 : (f 0).2[0]? = some ((f 0).2[0]'(by omega)) := by simp
      rw [h4] at h1
      exact World.cell?_spot h1
    subst hsp
    refine ⟨b, off, rfl, fun i hi => ?_⟩
    rw [hlen] at hi
    refine ⟨(f i).2, by simpa using (hf i hi).1, ?_⟩
    obtain ⟨h1, h2⟩ := cellsOf i hi
    refine cellsAt_all (by omega) fun j hj => ?_
    have h3 := h2 j (by omega)
    rw [add_lit2] at h3
    rw [h3]
    simp
def FieldsReadW {α : Type} (P : Program) (fs : List Field) (off : Nat) (A : Rp α) : Prop :=
  ∀ {H : Type} (enc : TypeId × Value → H) (W : World) (n : Nat) (cs : List Value),
    (∀ f ∈ fs, ∃ y, DataW.trod enc P W 0 (fun _ => true) true n f.type ((cs.drop f.offset).take (P.cellsOf f.type)) = some y ∧ ∀ k ∈ y.1.weights P f.type, k ≤ reachBytes) → off + A.n = cs.length → ∃ a, A.ok (Sub.all W) (cs.drop off) a
theorem FieldsReadW.nil {P : Program} {off : Nat} : FieldsReadW P [] off rUnit := by
  intro H enc W n cs _ hl
  exact ⟨(), List.drop_eq_nil_of_le (by have : rUnit.n = 0 := rfl; omega)⟩
theorem FieldsReadW.cons {α β : Type} {P : Program} {A : Rp α} {B : Rp β} {f : Field} {fs : List Field} {off : Nat} (ho : f.offset = off) (hc : P.cellsOf f.type = A.n) (hA : ReadsW P A f.type)
    (hB : FieldsReadW P fs (off + A.n) B) : FieldsReadW P (f :: fs) off (rPair A B) := by
  intro H enc W n cs hf hl
  obtain ⟨y, hy, hyw⟩ := hf f (by simp)
  obtain ⟨a, ha⟩ := hA enc W n _ _ hy hyw
  rw [ho, hc] at ha
  have hn : (rPair A B).n = A.n + B.n := rfl
  obtain ⟨b, hb⟩ := hB enc W n cs (fun g hg => hf g (by simp [hg])) (by omega)
  refine ⟨(a, b), (cs.drop off).take A.n, cs.drop (off + A.n), ?_, ha, hb⟩
  rw [← List.drop_drop]
  exact (List.take_append_drop _ _).symm
theorem ReadsW.struct {α : Type} {P : Program} {A : Rp α} {t : TypeId} {fs : Array Field} (ht : P.underlying t = some (.struct fs)) (hc : P.cellsOf t = A.n) (hF : FieldsReadW P fs.toList 0 A) : ReadsW P A t := by
  intro H enc W fuel cs x h hwt
  obtain ⟨xs, n, _, hx2, hlen, hxl, hel⟩ := DataW.trod_struct ht h
  have := hF enc W n cs (fun f hf => by
    obtain ⟨i, hi, rfl⟩ := List.mem_iff_getElem.1 hf
    have h1 := hel i fs.toList[i] (by simp at hi; simp [hi])
    have hi' : i < xs.length := by simp at hi; omega
    refine ⟨xs[i], ?_, ?_⟩
    · rw [h1]; simp [hi']
    · intro k hk
      refine hwt k ?_
      rw [hx2]
      simp only [DataW.weights, ht]
      exact DataW.weights_mem_each (j := i) (t := fs.toList[i].type) (d := xs[i].1) (by rw [List.getElem?_map, List.getElem?_eq_getElem hi]; rfl) (by rw [List.getElem?_map, List.getElem?_eq_getElem hi']; rfl) k hk) (by omega)
  simpa using this
theorem ReadsW.trod {α : Type} {P : Program} {A : Rp α} {t : TypeId} (h : ReadsW P A t) {H : Type} {enc : TypeId × Value → H} {W : World} {v : Value} {d : DataW H} {ps : List MemPlace}
    (hx : DataW.Trod enc P W 0 (fun _ => true) true t v d ps) (hw : ∀ n ∈ d.weights P t, n ≤ reachBytes) : ∃ a, A.ok (Sub.all W) v.cells.toList a := by
  obtain ⟨fuel, hf⟩ := hx
  exact h enc W fuel _ _ hf hw
/-- the weights of one argument of many -/
theorem weights_of {H : Type} {P : Program} {ts : List TypeId} {ds : List (DataW H)} (h : (DataW.weightsEach P ts ds).all (· ≤ reachBytes) = true) (j : Nat) {t : TypeId} {d : DataW H} (ht : ts[j]? = some t) (hd : ds[j]? = some d) :
    ∀ n ∈ d.weights P t, n ≤ reachBytes := fun n hn => by
  have := List.all_eq_true.1 h n (DataW.weights_mem_each ht hd n hn)
  simpa using this
end Go.Proofs.YtepdfkgadigafaaGreatDoor
