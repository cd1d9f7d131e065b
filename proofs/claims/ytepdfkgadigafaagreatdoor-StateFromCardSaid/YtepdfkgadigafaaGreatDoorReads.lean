/-
  What comes in as data of a type reads as a Lean value of that type's make ('Rp'), in all the memory that is there.
  Conditions: none; plain lemmas over whatever program.
-/
import Derived.Test.YtepdfkgadigafaaGreatDoorBase
import Derived.ProofKit
import Derived.OpenShut
import Derived.ShutString
import Derived.ChangeOld
import Derived.Below
import Derived.Deep.Slices
namespace Go.Proofs.YtepdfkgadigafaaGreatDoor
open Go.ChangeShapes Go.WideShapes Go.ChangeAt Go.RowKit

def Reads {α : Type} (P : Program) (A : Rp α) (t : TypeId) : Prop :=
  ∀ {H : Type} (enc : TypeId × Value → H) (W : World) (fuel : Nat) (cs : List Value) (x : DataW H × List MemPlace),
    DataW.trod enc P W 0 (fun _ => true) true fuel t cs = some x → ∃ a, A.ok (Sub.all W) cs a

theorem Reads.int {P : Program} {t : TypeId} {k : IntKind} (ht : P.underlying t = some (.int k)) : Reads P (rInt k) t := by
  intro H enc W fuel cs x h
  obtain ⟨n, h1, _, h2⟩ := DataW.trod_int ht h
  exact ⟨n, h1, h2⟩
theorem Reads.byte {P : Program} {t : TypeId} (ht : P.underlying t = some (.int .u8)) : Reads P rByte t := by
  intro H enc W fuel cs x h
  obtain ⟨n, h1, _, h2⟩ := DataW.trod_int ht h
  have hb : 0 ≤ n ∧ n ≤ 255 := by
    have := h2
    simp [Lit.wf, IntKind.min, IntKind.max, IntKind.signed, IntKind.bits] at this
    omega
  refine ⟨UInt8.ofNat n.toNat, ?_⟩
  show cs = [.int .u8 ((UInt8.ofNat n.toNat).toNat : Int)]
  have : ((UInt8.ofNat n.toNat).toNat : Int) = n := by
    simp [UInt8.toNat_ofNat']
    omega
  rw [this]; exact h1
theorem Reads.bool {P : Program} {t : TypeId} (ht : P.underlying t = some .bool) : Reads P rBool t := by
  intro H enc W fuel cs x h
  obtain ⟨n, h1, _⟩ := DataW.trod_bool ht h
  exact ⟨n, h1⟩
theorem Reads.str {P : Program} {t : TypeId} (ht : P.underlying t = some .string) : Reads P rStr t := by
  intro H enc W fuel cs x h
  obtain ⟨s, h1, _, h2⟩ := DataW.trod_string ht h
  exact ⟨s.data.toList, s, h1, rfl, h2⟩

theorem mapM_cells {w : World} {a : Addr} : ∀ (n k : Nat) (cs : List Value), (List.range' k n).mapM (fun i => w.cell? (a.add i)) = some cs → cs.length = n ∧ ∀ j, j < n → w.cell? (a.add (k + j)) = cs[j]? := by
  intro n
  induction n with
  | zero => intro k cs h; simp at h; subst h; exact ⟨rfl, fun j hj => by omega⟩
  | succ n ih =>
    intro k cs h
    rw [List.range'_succ, List.mapM_cons] at h
    simp only [Option.bind_eq_bind, Option.bind_eq_some_iff, Option.pure_def, Option.some.injEq] at h
    obtain ⟨y, hy, ys, hys, rfl⟩ := h
    obtain ⟨h1, h2⟩ := ih (k + 1) ys hys
    refine ⟨by simp [h1], fun j hj => ?_⟩
    cases j with
    | zero => simpa using hy
    | succ j =>
      have := h2 j (by omega)
      rw [show k + (j + 1) = k + 1 + j by omega]
      simpa using this

theorem cellsAt_all {w : World} {b off : Nat} {cs : List Value} (hp : 0 < cs.length) (h : ∀ j (hj : j < cs.length), w.cell? ⟨b, off + j, none⟩ = some cs[j]) : CellsAt (Sub.all w) b off cs := by
  have h0 := h 0 hp
  simp only [World.cell?] at h0
  match hb : w.heap[b]? with
  | some (.cells c e fr) =>
    refine ⟨c, e, fr, hb, fun j hj => ?_⟩
    have hj' := h j hj
    simp only [World.cell?, hb] at hj'
    simpa [hj] using hj'
  | none => simp [hb] at h0
  | some (.pending _ _) => simp [hb] at h0
  | some (.view _ _) => simp [hb] at h0
  | some (.number _ _) => simp [hb] at h0
  | some (.map _ _) => simp [hb] at h0
  | some (.chan _ _ _ _ _ _) => simp [hb] at h0
  | some (.stringIter _ _) => simp [hb] at h0
  | some (.mapIter _ _ _ _) => simp [hb] at h0
  | some (.loop _) => simp [hb] at h0
  | some (.deferred _) => simp [hb] at h0
  | some (.coro _) => simp [hb] at h0
  | some (.finalizers _ _) => simp [hb] at h0

theorem add_lit2 (b off i j : Nat) : ((⟨b, off, none⟩ : Addr).add i).add j = ⟨b, off + i + j, none⟩ := by
  unfold Addr.add
  by_cases hi : i = 0
  · by_cases hj : j = 0
    · simp [hi, hj]
    · simp [hi, hj]
  · by_cases hj : j = 0
    · simp [hi, hj]
    · simp [hi, hj]

theorem Reads.slice {α : Type} [Inhabited α] {P : Program} {A : Rp α} {t e : TypeId} (ht : P.underlying t = some (.slice e)) (hc : P.cellsOf e = A.n) (hpos : 0 < A.n) (hA : Reads P A e) : Reads P (rSl A) t := by
  intro H enc W fuel cs x h
  rcases Deep.open_slice ht h with ⟨rfl, _⟩ | ⟨a, len, cap, m, n, D, Pl, rfl, _, hl, hm, hmm, _, hel⟩
  · exact ⟨[], none, 0, rfl, by simp, by simp [maxLen], fun h => by simp at h⟩
  · have hm' : m = cap := by simpa using hmm
    subst hm'
    have hx : ∀ i, i < len → ∃ y : α × List Value, A.ok (Sub.all W) y.2 y.1 ∧ W.cells? 0 (a.add (i * A.n)) A.n = some y.2 := by
      intro i hi
      obtain ⟨cs', h1, h2⟩ := hel i (by omega)
      obtain ⟨y, hy⟩ := hA enc W n cs' _ h2
      rw [hc] at h1
      exact ⟨(y, cs'), hy, h1⟩
    obtain ⟨f, hf⟩ := Deep.choose_lt (α := α × List Value) hx
    have hlen : ((List.range len).map fun i => (f i).1).length = len := by simp
    refine ⟨(List.range len).map fun i => (f i).1, some a, m, by rw [hlen], by rw [hlen]; exact hl, hm, fun h0 => ?_⟩
    rw [hlen] at h0
    have cellsOf : ∀ i, i < len → (f i).2.length = A.n ∧ ∀ j, j < A.n → W.cell? ((a.add (i * A.n)).add j) = (f i).2[j]? := by
      intro i hi
      have h1 := (hf i hi).2
      simp only [World.cells?, Nat.zero_le, if_true] at h1
      rw [List.range_eq_range'] at h1
      have := mapM_cells _ 0 _ h1
      exact ⟨this.1, fun j hj => by have := this.2 j hj; rwa [Nat.zero_add] at this⟩
    obtain ⟨b, off, spot⟩ := a
    have hsp : spot = none := by
      have h1 := (cellsOf 0 h0).2 0 hpos
      have h2 := (cellsOf 0 h0).1
      rw [Nat.zero_mul] at h1
      have h3 : ((⟨b, off, spot⟩ : Addr).add 0).add 0 = ⟨b, off, spot⟩ := by simp [Addr.add]
      rw [h3] at h1
      have h4 : (f 0).2[0]? = some ((f 0).2[0]'(by omega)) := by simp
      rw [h4] at h1
      exact World.cell?_spot h1
    subst hsp
    refine ⟨b, off, rfl, fun i hi => ?_⟩
    rw [hlen] at hi
    refine ⟨(f i).2, by simpa using (hf i hi).1, ?_⟩
    obtain ⟨h1, h2⟩ := cellsOf i hi
    refine cellsAt_all (by omega) fun j hj => ?_
    have h3 := h2 j (by omega)
    rw [add_lit2] at h3
    rw [h3]
    simp

/-! ### structs: their fields one behind the other -/
def rUnit : Rp Unit where
  n := 0
  ok := fun _ cs _ => cs = []
  len := fun h => by rw [h]; rfl
  mono := fun _ h => h
def FieldsRead {α : Type} (P : Program) (fs : List Field) (off : Nat) (A : Rp α) : Prop :=
  ∀ {H : Type} (enc : TypeId × Value → H) (W : World) (n : Nat) (cs : List Value),
    (∀ f ∈ fs, ∃ y, DataW.trod enc P W 0 (fun _ => true) true n f.type ((cs.drop f.offset).take (P.cellsOf f.type)) = some y) → off + A.n = cs.length → ∃ a, A.ok (Sub.all W) (cs.drop off) a
theorem FieldsRead.nil {P : Program} {off : Nat} : FieldsRead P [] off rUnit := by
  intro H enc W n cs _ hl
  exact ⟨(), List.drop_eq_nil_of_le (by have : rUnit.n = 0 := rfl; omega)⟩
theorem FieldsRead.cons {α β : Type} {P : Program} {A : Rp α} {B : Rp β} {f : Field} {fs : List Field} {off : Nat} (ho : f.offset = off) (hc : P.cellsOf f.type = A.n) (hA : Reads P A f.type)
    (hB : FieldsRead P fs (off + A.n) B) : FieldsRead P (f :: fs) off (rPair A B) := by
  intro H enc W n cs hf hl
  obtain ⟨y, hy⟩ := hf f (by simp)
  obtain ⟨a, ha⟩ := hA enc W n _ _ hy
  rw [ho, hc] at ha
  have hn : (rPair A B).n = A.n + B.n := rfl
  obtain ⟨b, hb⟩ := hB enc W n cs (fun g hg => hf g (by simp [hg])) (by omega)
  refine ⟨(a, b), (cs.drop off).take A.n, cs.drop (off + A.n), ?_, ha, hb⟩
  rw [← List.drop_drop]
  exact (List.take_append_drop _ _).symm
theorem Reads.struct {α : Type} {P : Program} {A : Rp α} {t : TypeId} {fs : Array Field} (ht : P.underlying t = some (.struct fs)) (hc : P.cellsOf t = A.n) (hF : FieldsRead P fs.toList 0 A) : Reads P A t := by
  intro H enc W fuel cs x h
  obtain ⟨xs, n, _, _, hlen, hxl, hel⟩ := DataW.trod_struct ht h
  have := hF enc W n cs (fun f hf => by
    obtain ⟨i, hi, rfl⟩ := List.mem_iff_getElem.1 hf
    have h1 := hel i fs.toList[i] (by simp at hi; simp [hi])
    refine ⟨xs[i]'(by simp at hi; omega), ?_⟩
    rw [h1]; simp at hi; simp [hxl, hi]) (by omega)
  simpa using this
theorem Reads.by {α β : Type} {P : Program} {A : Rp α} {t : TypeId} {f : β → α} (g : α → β) (hg : ∀ a, f (g a) = a) (h : Reads P A t) : Reads P (rBy A f) t := by
  intro H enc W fuel cs x hx
  obtain ⟨a, ha⟩ := h enc W fuel cs x hx
  refine ⟨g a, ?_⟩
  show A.ok _ cs (f (g a))
  rw [hg]; exact ha
theorem Reads.trod {α : Type} {P : Program} {A : Rp α} {t : TypeId} (h : Reads P A t) {H : Type} {enc : TypeId × Value → H} {W : World} {v : Value} {d : DataW H} {ps : List MemPlace}
    (hx : DataW.Trod enc P W 0 (fun _ => true) true t v d ps) : ∃ a, A.ok (Sub.all W) v.cells.toList a := by
  obtain ⟨fuel, hf⟩ := hx
  exact h enc W fuel _ _ hf
end Go.Proofs.YtepdfkgadigafaaGreatDoor
