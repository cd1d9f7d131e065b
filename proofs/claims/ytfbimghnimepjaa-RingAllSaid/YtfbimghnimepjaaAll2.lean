/-
  The walk of the law RingAll, of chapter 24, whole.
  Conditions: none but that what comes in is data of its type.
-/
import Derived.Test.YtfbimghnimepjaaAll1
namespace Go.Proofs.Ytfbimghnimepjaa
open Go.RowKit Go.Shelf
set_option linter.unusedVariables false
set_option linter.unusedSimpArgs false
set_option maxHeartbeats 2000000 in
set_option maxRecDepth 100000 in
theorem all_great (a : Int) (ha : 0 ≤ a ∧ a ≤ 255) (la : Option Addr) (n lc : Nat) (hn : 60 < n) (hm : n ≤ 9223372036854775807) (w : World) :
    Calls Try.prog 10 #[.int .u8 a, .slice la n lc] w fun e w' => e = .returned (.bool true) ∧ Below w.heap.size w w' := by
  have hb1 : Below w.heap.size w ((w.alloc (.cells #[.slice la n lc] 69)).alloc (.cells #[.bool false] 4)) := bl_alloc (bl_alloc (Below.refl _ _) _) _
  have bX := (Boxed.new w 69 (.slice la n lc)).alloc (.cells #[.bool false] 4)
  have bR := Boxed.new (w.alloc (.cells #[.slice la n lc] 69)) 4 (.bool false)
  rw [World.size_alloc] at bR
  obtain ⟨W1, hW1⟩ : ∃ W1, (w.alloc (.cells #[.slice la n lc] 69)).alloc (.cells #[.bool false] 4) = W1 := ⟨_, rfl⟩
  rw [hW1] at hb1 bX bR
  have hd : decide ((60 : Int) < n) = true := by simp only [decide_eq_true_eq]; omega
  go_enter Try.func10, Try.ntmps10
  go_wp2_with fail
  have hq : 1 ≤ 1 + a % 60 ∧ 1 + a % 60 ≤ 60 := by omega
  generalize 1 + a % 60 = q at *
  obtain ⟨cap, rfl⟩ := Int.eq_ofNat_of_zero_le (a := q) (by omega)
  refine (new_row cap W1 (by omega) (by omega)).mono ?_
  rintro e w2 ⟨p, g, rfl, hp, hg, hR, hb2⟩
  have bX2 : Boxed w2 w.heap.size 69 (.slice la n lc) := (hb2.block _ bX.lt).trans bX
  have bR2 : Boxed w2 (w.heap.size + 1) 4 (.bool false) := (hb2.block _ bR.lt).trans bR
  have hb02 := bl_trans hb1 hb2
  have bX3 := bX2.alloc (.cells #[.pointer (some ⟨p, 0, none⟩)] 70)
  have bR3 := bR2.alloc (.cells #[.pointer (some ⟨p, 0, none⟩)] 70)
  have hB3 := bl_alloc hb02 (.cells #[.pointer (some ⟨p, 0, none⟩)] 70)
  obtain ⟨w3, hw3⟩ : ∃ w3, w2.alloc (.cells #[.pointer (some ⟨p, 0, none⟩)] 70) = w3 := ⟨_, rfl⟩
  rw [hw3] at bX3 bR3 hB3
  have x1 := bX3.cell
  have x3 := bR3.lt
  replace hW1 := Lib.hid hW1
  clear hR
  go_wp2_with fail
  refine (awake24_any _).mono ?_
  rintro e w9 ⟨rfl, hb9⟩
  have bR9 : Boxed w9 (w.heap.size + 1) 4 (.bool false) := (hb9.block _ x3).trans bR3
  have y1 := bR9.cell
  have y2 := bR9.frozen
  go_wp2_with fail
  have y3 := (bR9.set (.bool true)).cell
  exact bodyPost_ret (v := .bool true) (by simp [results, Try.results10, go_sem, y1, y3]) rfl ⟨rfl, (bl_trans hB3 hb9).setCell (p := ⟨w.heap.size + 1, 0, none⟩) (by simp) _⟩
def xs_len (x : List (List UInt8)) (i : Nat) : Nat := (x.getD i []).length
theorem xs_len_eq {x : List (List UInt8)} {i : Nat} (h : i < x.length) : xs_len x i = x[i].length := by simp [xs_len, List.getD, h]
theorem ringAll_walk (W : World) (a : Int) (wa : (Lit.int .u8 a).wf = true) (la : Option Addr) (l c : Nat) (x : List (List UInt8)) (h : (rSl (rSl rByte)).ok (Sub.all W) [.slice la l c] x) :
    Calls Try.prog 10 #[.int .u8 a, .slice la l c] W fun e w' => e = .returned (.bool true) ∧ Below W.heap.size W w' := by
  have ha : 0 ≤ a ∧ a ≤ 255 := by
    simp [Lit.wf, IntKind.min, IntKind.max, IntKind.signed, IntKind.bits] at wa; omega
  obtain ⟨la', cap, e, h1, h2, h3⟩ := h
  injection e with e _
  injection e with e1 e2 e3
  subst e1 e2 e3
  unfold maxLen at h2
  by_cases hn : 60 < x.length
  · exact all_great a ha la x.length c hn (by omega) W
  · have hex : ∀ i, i < x.length → ∃ t : Option Addr × Nat × Nat, (t.2.1 ≤ 9223372036854775807 ∧ (0 < t.2.1 → ∃ b o, t.1 = some ⟨b, o, none⟩ ∧ b < W.heap.size ∧ ∃ g : Nat → Int, ∀ j, j < t.2.1 → W.cell? ⟨b, o + j, none⟩ = some (.int .u8 (g j)))) ∧
        ∃ b o, la = some ⟨b, o, none⟩ ∧ W.cell? ⟨b, o + i, none⟩ = some (.slice t.1 t.2.1 t.2.2) := fun i hi => by
      obtain ⟨b, o, e, hr⟩ := h3 (by omega)
      obtain ⟨cs, hok, hat⟩ := hr i hi
      obtain ⟨ta, tc, e1, k1, k2, k3⟩ := hok
      subst e1
      unfold maxLen at k2
      refine ⟨(ta, xs_len x i, tc), ⟨?_, fun h0 => ?_⟩, b, o, e, ?_⟩
      · show xs_len x i ≤ _; rw [xs_len_eq hi]; omega
      · obtain ⟨b2, o2, e2, r2⟩ := k3 (by have h0' : 0 < xs_len x i := h0; rw [xs_len_eq hi] at h0'; exact h0')
        have hby := r2.bytes (Sub.all_in W)
        refine ⟨b2, o2, e2, ?_, fun j => ((x.getD i []).getD j 0).toNat, fun j hj => ?_⟩
        · have h0' : 0 < xs_len x i := h0
          rw [xs_len_eq hi] at h0'
          exact World.block_lt_of_cell? W _ (hby 0 h0')
        · have hj' : j < xs_len x i := hj
          rw [xs_len_eq hi] at hj'
          rw [hby j hj']
          simp [List.getD, hi, hj']
      · have := hat.cell (Sub.all_in W) (j := 0) (by simp)
        rw [xs_len_eq hi]
        simpa [rSl] using this
    obtain ⟨f, hf⟩ := Deep.choose_lt hex
    refine allWalk a ha la x.length c (by omega) (fun i => (f i).1) (fun i => (f i).2.1) (fun i => (f i).2.2) W (fun h0 => ?_) (fun i hi => (hf i hi).1)
    obtain ⟨b, o, e, hc⟩ := (hf 0 h0).2
    refine ⟨b, o, e, World.block_lt_of_cell? W _ hc, fun i hi => ?_⟩
    obtain ⟨b', o', e', hc'⟩ := (hf i hi).2
    obtain ⟨rfl, rfl⟩ : b = b' ∧ o = o' := by rw [e] at e'; injection e' with e'; injection e' with e1 e2; exact ⟨e1, e2⟩
    exact hc'
end Go.Proofs.Ytfbimghnimepjaa
