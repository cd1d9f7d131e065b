/-
  Stops.Get; of chapter 28.
  Conditions: as each theorem states them.
-/
import Derived.Test.YtcjcflmnghhbaaaGreatStopG
namespace Go.Proofs.YtcjcflmnghhbaaaGreat
open Go.RowKit
set_option linter.unusedVariables false
set_option linter.unusedSimpArgs false
theorem getS_at {id : Int} {l : List Stp} {k : Nat} (h : l.findIdx? (fun x => x.id == id) = some k) : ∃ hk : k < l.length, getS id l = ((l[k]).brk, true) := by
  obtain ⟨h1, h2, h3⟩ := List.findIdx?_eq_some_iff_getElem.1 h
  refine ⟨h1, ?_⟩
  have hf : l.find? (fun x => x.id == id) = some l[k] := by
    have e : l = l.take k ++ l[k] :: l.drop (k + 1) := by rw [List.getElem_cons_drop, List.take_append_drop]
    conv => lhs; rw [e]
    rw [List.find?_append]
    have h4 : (l.take k).find? (fun x => x.id == id) = none := List.find?_eq_none.2 fun x hx => by
      obtain ⟨i, hi, rfl⟩ := List.mem_iff_getElem.1 hx
      rw [List.getElem_take]
      exact h3 i (by simp at hi; omega)
    rw [h4, List.find?_cons_of_pos (by simpa using h2)]
    rfl
  unfold getS
  rw [hf]
theorem getS_no {id : Int} {l : List Stp} (h : l.findIdx? (fun x => x.id == id) = none) : getS id l = (noBrk, false) := by
  have hf : l.find? (fun x => x.id == id) = none := List.find?_eq_none.2 fun x hx => by
    have := List.findIdx?_eq_none_iff.1 h x hx
    simpa using this
  unfold getS
  rw [hf]
set_option maxHeartbeats 4000000 in
set_option maxRecDepth 100000 in
theorem get_any {N : Nat} {W : World} {p : Nat} {l : List Stp} {last : Int} (h : StopsAt N W p l last) (hl : l.length ≤ 1000000) (id : Int) :
    Calls Tryz.prog 18 #[.pointer (some ⟨p, 0, none⟩), .int .i64 id] W fun e w' => e = .returned (.tuple #[.agg (getS id l).1.toArray, .bool (getS id l).2]) ∧ Below W.heap.size W w' := by
  have hb1 : Below W.heap.size W (W.alloc (.cells noBrk.toArray 60)) := bl_alloc (Below.refl _ _) _
  have hf := Lib.hid (find_any (h.below hb1) hl id)
  obtain ⟨v, hR⟩ := h
  have hB := Blk.new W 60 noBrk
  obtain ⟨W1, hW1⟩ : ∃ W1, W.alloc (.cells noBrk.toArray 60) = W1 := ⟨_, rfl⟩
  rw [hW1] at hb1 hf hB
  unfold noBrk at hW1
  obtain ⟨b, hb⟩ : ∃ b, W.heap.size = b := ⟨_, rfl⟩
  rw [hb] at hB
  have hbl := hB.lt
  have hend := Lib.hid (fun w2 (h2 : Below W1.heap.size W1 w2) X (hX : Only (fun i => i = b) w2 X) => (bl_trans hb1 h2).trans (hX.below (bl_trans hb1 h2).size (fun i hi => by rw [hi, hb]; exact Nat.le_refl _)))
  have hbk := Lib.hid (fun w2 (h2 : Below W1.heap.size W1 w2) => hB.below h2)
  replace hW1 := Lib.hid hW1
  cases hk : l.findIdx? (fun x => x.id == id) with
  | none =>
    have e1 : findP id l = -1 := by unfold findP; rw [hk]
    rw [e1] at hf
    rw [getS_no hk]
    clear hk e1 hR hB
    go_enter Tryz.func18, Tryz.ntmps18
    go_upto_region 1 with fail
    rw [hW1.out]
    go_upto_region 4 with (go_at_call 23; refine hf.out.mono ?_; rintro e w2 ⟨rfl, hb2⟩)
    have k := hbk.out w2 hb2
    unfold noBrk at k
    have k0 := k.cell 0
    have k1 := k.cell 1
    have k2 := k.cell 2
    have k3 := k.cell 3
    have k4 := k.cell 4
    have f0 := k.free 0
    have f1 := k.free 1
    have f2 := k.free 2
    have f3 := k.free 3
    have f4 := k.free 4
    have kl := k.lt
    simp only [List.getElem?_cons_zero, List.getElem?_cons_succ] at k0 k1 k2 k3 k4
    have hend2 := Lib.hid (hend.out w2 hb2)
    clear hf hend hbk k
    go_wp2_with fail
    refine bodyPost_ret (v := .tuple #[.agg #[.int .i64 0, .int .i64 0, .int .i64 0, .string ⟨#[]⟩, .bool false], .bool false]) (by simp [results, Tryz.results18, go_sem, k0, k1, k2, k3, k4, f0, f1, f2, f3, f4]) rfl ⟨rfl, hend2.out _ ?_⟩
    exact (((((Only.refl (fun i => i = b) w2).setCell (p := ⟨b, 0, none⟩) rfl _).setCell (p := ⟨b, 1, none⟩) rfl _).setCell (p := ⟨b, 2, none⟩) rfl _).setCell (p := ⟨b, 3, none⟩) rfl _).setCell (p := ⟨b, 4, none⟩) rfl _
  | some k =>
    obtain ⟨e1, hkl⟩ := findP_at hk
    rw [e1] at hf
    obtain ⟨hkl, e2⟩ := getS_at hk
    rw [e2]
    rcases row_elem hR.row with ⟨rfl, _⟩ | ⟨g, cap, rfl, hN2, hg, hcap, hm, hel⟩
    · simp at hkl
    have hp := hR.blk.lt
    have hcl := Lib.hid (fun w2 (h2 : Below W1.heap.size W1 w2) => (⟨((bl_trans hb1 h2).cell (p := ⟨p, 0, none⟩) hp).trans (hR.blk.cell 0), Nat.lt_of_lt_of_le hp (bl_trans hb1 h2).size, Nat.lt_of_lt_of_le hg (bl_trans hb1 h2).size, fun j u hu => ((bl_trans hb1 h2).cell (p := ⟨g, k * 6 + j, none⟩) hg).trans ((hel k hkl).1 j u hu)⟩ : w2.cell? ⟨p, 0, none⟩ = some (.slice (some ⟨g, 0, none⟩) l.length cap) ∧ p < w2.heap.size ∧ g < w2.heap.size ∧ ∀ j u, (l[k]).cells[j]? = some u → w2.cell? ⟨g, k * 6 + j, none⟩ = some u))
    have z0 : (0 : Int) ≤ (k : Int) := by omega
    have z1 : (k : Int) < (l.length : Int) := by omega
    obtain ⟨x, hx⟩ : ∃ x, l[k] = x := ⟨_, rfl⟩
    rw [hx] at hcl ⊢
    clear hk e1 hR hB hel hm
    go_enter Tryz.func18, Tryz.ntmps18
    go_upto_region 1 with fail
    rw [hW1.out]
    go_upto_region 4 with (go_at_call 23; refine hf.out.mono ?_; rintro e w2 ⟨rfl, hb2⟩)
    have k' := hbk.out w2 hb2
    unfold noBrk at k'
    have k0 := k'.cell 0
    have k1 := k'.cell 1
    have k2 := k'.cell 2
    have k3 := k'.cell 3
    have k4 := k'.cell 4
    have f0 := k'.free 0
    have f1 := k'.free 1
    have f2 := k'.free 2
    have f3 := k'.free 3
    have f4 := k'.free 4
    have kl := k'.lt
    simp only [List.getElem?_cons_zero, List.getElem?_cons_succ] at k0 k1 k2 k3 k4
    obtain ⟨x0, xl, xg, xe⟩ := hcl.out w2 hb2
    have c0 := xe 0 _ rfl
    have c1 := xe 1 _ rfl
    have c2 := xe 2 _ rfl
    have c3 := xe 3 _ rfl
    have c4 := xe 4 _ rfl
    rw [Nat.add_zero] at c0
    have hend2 := Lib.hid (hend.out w2 hb2)
    replace hx := Lib.hid hx
    clear hf hend hbk k' hcl xe
    go_wp2_with fail
    refine bodyPost_ret (v := .tuple #[.agg #[.int .i64 x.id, .int .i64 x.kind, .int .i64 x.n, strV x.cond, .bool x.off], .bool true]) (by simp [results, Tryz.results18, go_sem, k0, k1, k2, k3, k4, f0, f1, f2, f3, f4]) rfl ⟨rfl, hend2.out _ ?_⟩
    exact (((((Only.refl (fun i => i = b) w2).setCell (p := ⟨b, 0, none⟩) rfl _).setCell (p := ⟨b, 1, none⟩) rfl _).setCell (p := ⟨b, 2, none⟩) rfl _).setCell (p := ⟨b, 3, none⟩) rfl _).setCell (p := ⟨b, 4, none⟩) rfl _
end Go.Proofs.YtcjcflmnghhbaaaGreat
