/-
  slices.Clone of bytes, lines.Cut; of chapter 02.
  Conditions: as each theorem states them.
-/
import Derived.Test.YtaginadnaajleaaNumB
import Derived.Laws.AppendOwnNone
import Derived.Lib.SliceRun
namespace Go.Proofs.Ytaginadnaajleaa
open Go.RowKit
set_option linter.unusedVariables false
set_option linter.unusedSimpArgs false
def BytesAt (w : World) (ba : Option Addr) (xs : List UInt8) : Prop := 0 < xs.length → ∃ p o, ba = some ⟨p, o, none⟩ ∧ p < w.heap.size ∧ ByteRow w p o xs
theorem BytesAt.below {w w' : World} {ba : Option Addr} {xs : List UInt8} (h : BytesAt w ba xs) (hb : Below w.heap.size w w') : BytesAt w' ba xs := fun h0 => by
  obtain ⟨p, o, e, hp, hr⟩ := h h0
  exact ⟨p, o, e, Nat.lt_of_lt_of_le hp hb.size, fun i hi => (hb.cell (p := ⟨p, o + i, none⟩) hp).trans (hr i hi)⟩
theorem byteCells_get {xs : List UInt8} {j : Nat} {u : Value} (h : (Lib.byteCells xs)[j]? = some u) : ∃ hj : j < xs.length, u = .int .u8 (xs[j].toNat : Int) := by
  unfold Lib.byteCells at h
  rw [List.getElem?_map] at h
  obtain ⟨y, hy, rfl⟩ := Option.map_eq_some_iff.1 h
  obtain ⟨hj, rfl⟩ := List.getElem?_eq_some_iff.1 hy
  exact ⟨hj, rfl⟩
set_option maxHeartbeats 2000000 in
theorem clone_any (p o c : Nat) (xs : List UInt8) (hl : xs.length ≤ 1000000) (w : World) (hp : p < w.heap.size) (hr : ByteRow w p o xs) :
    Calls Try.prog 40 #[.slice (some ⟨p, o, none⟩) xs.length c] w fun e w' => ∃ v, e = .returned v ∧ w'.ownsRow w.heap.size 5 1 v xs.length (Lib.byteCells xs) ∧ Below w.heap.size w w' := by
  obtain ⟨i0, hi, hz0, hz1, hz2⟩ := info_parts infoByteB
  have hown := Lib.hid (World.ownsRow_made (base := w.heap.size) (e := 5) (size := 1) w #[] 0 (Nat.le_refl _) (by decide) rfl)
  have hcells : ∀ j u, (Lib.byteCells xs)[j]? = some u → (w.alloc (.cells #[] 5)).cell? ((⟨p, o, none⟩ : Addr).add j) = some u := fun j u h => by
    obtain ⟨hj, rfl⟩ := byteCells_get h
    have e1 : (⟨p, o, none⟩ : Addr).add j = ⟨p, o + j, none⟩ := by unfold Addr.add; by_cases h0 : j = 0 <;> simp [h0]
    rw [e1]
    exact ((bl_alloc (Below.refl w.heap.size w) _).cell (p := ⟨p, o + j, none⟩) hp).trans (hr j hj)
  replace hcells := Lib.hid hcells
  have q22 : ∀ (w : World) (a : Option Addr) (n c n' c' : Nat), (binOp .eql 23 (.slice a n c) (.slice none n' c')).run Try.prog w = .ok (.bool a.isNone) w := fun w a n c n' c' => Lib.run_eql_slice_nil w _ _ a n c n' c' Try.underlying23
  obtain ⟨n, hn⟩ : ∃ n, xs.length = n := ⟨_, rfl⟩
  have hbl : (Lib.byteCells xs).length = n * 1 := by rw [Nat.mul_one, ← hn]; simp [Lib.byteCells]
  rw [hn] at hl ⊢
  replace hbl := Lib.hid hbl
  clear hr hn
  go_enter Try.func40, Try.ntmps40
  go_wp2_with (at_builtin; refine wpList_append_own _ rfl (.tmp 5) (.tmp 6) 23 rfl w.heap.size 5 i0 (.int .u8 0) 1 1 Try.underlying23 hi hz0 hz1 hz2 rfl (by decide) _ _ _ rfl hown.out ⟨p, o, none⟩ n c (Lib.byteCells xs) rfl hbl.out hcells.out (by intro u hu; obtain ⟨j, hj⟩ := List.mem_iff_getElem?.1 hu; obtain ⟨_, rfl⟩ := byteCells_get hj; rfl) (by unfold maxLen; omega) (by omega) (by simp) ?_; intro v1 w1 hown1 hgrow1 hnil1)
  all_goals go_ret
  all_goals exact ⟨_, rfl, by simpa using hown1, (bl_alloc (Below.refl _ _) _).grown hgrow1 (by simp) (fun j hj => (hown.out.lt j hj).1)⟩
end Go.Proofs.Ytaginadnaajleaa
