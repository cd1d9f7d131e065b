/-
  Stops.find, Turn, Get; of chapter 28.
  Conditions: as each theorem states them.
-/
import Derived.Test.YtlaafamodaogmaaStopF
namespace Go.Proofs.Ytlaafamodaogmaa
open Go.RowKit
set_option linter.unusedVariables false
set_option linter.unusedSimpArgs false
/-- one cell of a row is written -/
theorem own_set {w : World} {base : Nat} {e : TypeId} {size : Nat} {v : Value} {n : Nat} {xs : List Value} (h : w.ownsRow base e size v n xs) {g : Nat} (hg : v.ownBlock = some g) {j : Nat} (hj : j < n * size) (u : Value) : (w.setCell ⟨g, j, none⟩ u).ownsRow base e size v n (xs.set j u) := by
  refine ⟨by rw [List.length_set]; exact h.1, ?_⟩
  rcases h.2 with ⟨h1, h2⟩ | ⟨g2, cap, cur, h1, h2, h3, h4, h5, h6, h7⟩
  · rw [h1] at hg; simp [Value.ownBlock] at hg
  · rw [h1] at hg
    have hgg : g2 = g := by simpa [Value.ownBlock] using hg
    subst hgg
    have hB : Blk w g2 e cur.toList := by show w.heap[g2]? = _; rw [h3]
    have hB2 := hB.set j u
    refine .inr ⟨g2, cap, (cur.toList.set j u).toArray, h1, h2, hB2, h4, h5, by simpa using h6, ?_⟩
    rw [← h7]
    exact List.take_set
theorem stps_off : ∀ (l : List Stp) (k : Nat) (o : Bool), k < l.length → stpsC (l.modify k fun x => { x with off := o }) = (stpsC l).set (k * 6 + 4) (.bool o)
  | [], k, o, h => by simp at h
  | x :: l, 0, o, _ => by simp [stpsC, Stp.cells, Stp.ptr]
  | x :: l, k + 1, o, h => by
    have ih := stps_off l k o (by simpa using h)
    show x.cells ++ stpsC (l.modify k _) = (x.cells ++ stpsC l).set ((k + 1) * 6 + 4) _
    rw [ih, List.set_append_right _ _ (by rw [Stp.cells_len]; omega), Stp.cells_len, show (k + 1) * 6 + 4 - 6 = k * 6 + 4 by omega]
/-- a breakpoint is turned on, or off -/
def turnS (id : Int) (on : Bool) (l : List Stp) : List Stp := match l.findIdx? (fun x => x.id == id) with
  | some k => l.modify k fun x => { x with off := !on }
  | none => l
theorem mem_off {l : List Stp} {k : Nat} {o : Bool} {x : Stp} (h : x ∈ l.modify k fun x => { x with off := o }) : ∃ y ∈ l, x.c = y.c := by
  obtain ⟨j, hj, rfl⟩ := List.getElem_of_mem h
  rw [List.getElem_modify]
  simp only [List.length_modify] at hj
  split
  · exact ⟨l[j], List.getElem_mem hj, rfl⟩
  · exact ⟨l[j], List.getElem_mem hj, rfl⟩
theorem CAt.same {p : Nat} {v : Value} {W : World} {x y : Stp} (h : CAt p v W x) (e : y.c = x.c) : CAt p v W y := fun cb lo hi phi h2 => h cb lo hi phi (by rw [← e]; exact h2)
theorem StopsR.off {N : Nat} {W : World} {p : Nat} {v : Value} {l : List Stp} {last : Int} (h : StopsR N W p v l last) {g k : Nat} (hg : v.ownBlock = some g) (hk : k < l.length) (o : Bool) : StopsR N (W.setCell ⟨g, k * 6 + 4, none⟩ (.bool o)) p v (l.modify k fun x => { x with off := o }) last := by
  have hne : g ≠ p := fun e => h.apart (by rw [hg, e])
  refine ⟨h.np, h.blk.set_other (p := ⟨g, k * 6 + 4, none⟩) hne _, ?_, h.apart, fun x hx => ?_⟩
  · rw [stps_off l k o hk, List.length_modify]
    exact own_set h.row hg (by omega) _
  · obtain ⟨y, hy, e⟩ := mem_off hx
    exact ((h.conds y hy).only (K := fun j => j = g) ((Only.refl (fun j => j = g) W).setCell (p := ⟨g, k * 6 + 4, none⟩) rfl _) (fun j hj => .inr (.inl (by rw [hg, hj])))).same e
set_option maxHeartbeats 4000000 in
set_option maxRecDepth 100000 in
theorem find_any {N : Nat} {W : World} {p : Nat} {l : List Stp} {last : Int} (h : StopsAt N W p l last) (hl : l.length ≤ 1000000) (id : Int) :
    Calls Try.prog 46 #[.pointer (some ⟨p, 0, none⟩), .int .i64 id] W fun e w' => e = .returned (.int .i64 (findP id l)) ∧ Below W.heap.size W w' := by
  obtain ⟨v, hR⟩ := h
  have hx := Lib.hid (fun w' (hb : Below W.heap.size W w') b (hc : w'.cell? ⟨b, 0, none⟩ = some (.int .i64 id)) (hl2 : b < w'.heap.size) => index_any (ent_at (by kernel_rfl) : Ent 64) ask_find (ownsRow_below hR.row hb) hl hc hl2)
  have k0 : W.cell? ⟨p, 0, none⟩ = some v := hR.blk.cell 0
  have hp := hR.blk.lt
  obtain ⟨va, vc, rfl⟩ := own_slice hR.row
  clear hR
  go_enter Try.func46, Try.ntmps46
  go_wp2_with (go_at_call 63; refine (hx.out _ (bl_alloc (Below.refl _ _) _) W.heap.size (by simpa only [List.getElem?_cons_zero] using (Blk.new W 3 [.int .i64 id]).cell 0) (by simp)).mono ?_; rintro e w2 ⟨rfl, hb2⟩)
  go_ret
  exact ⟨rfl, bl_trans (bl_alloc (Below.refl _ _) _) hb2⟩
theorem findP_at {id : Int} {l : List Stp} {k : Nat} (h : l.findIdx? (fun x => x.id == id) = some k) : findP id l = (k : Int) ∧ k < l.length := by
  unfold findP
  rw [h]
  exact ⟨rfl, (List.findIdx?_eq_some_iff_getElem.1 h).1⟩
theorem turn_nil (id : Int) (on : Bool) (W : World) : Calls Try.prog 26 #[.pointer none, .int .i64 id, .bool on] W fun e w' => e = .returned (.int .i64 1) ∧ W = w' := by
  go_enter Try.func26, Try.ntmps26
  go_wp2_with fail
  go_ret
  exact ⟨rfl, rfl⟩
set_option maxHeartbeats 4000000 in
set_option maxRecDepth 100000 in
theorem turn_any {N : Nat} {W : World} {p : Nat} {l : List Stp} {last : Int} (h : StopsAt N W p l last) (hN : N ≤ W.heap.size) (hl : l.length ≤ 1000000) (id : Int) (on : Bool) :
    Calls Try.prog 26 #[.pointer (some ⟨p, 0, none⟩), .int .i64 id, .bool on] W fun e w' => e = .returned (.int .i64 (if findP id l < 0 then 6 else 0)) ∧ StopsAt N w' p (turnS id on l) last ∧ Below N W w' := by
  have hf := Lib.hid (find_any h hl id)
  obtain ⟨v, hR⟩ := h
  cases hk : l.findIdx? (fun x => x.id == id) with
  | none =>
    have e1 : findP id l = -1 := by unfold findP; rw [hk]
    have e2 : turnS id on l = l := by unfold turnS; rw [hk]
    rw [e1] at hf ⊢
    rw [e2]
    replace hR := Lib.hid hR
    clear hk e1 e2
    go_enter Try.func26, Try.ntmps26
    go_wp2_with (go_at_call 46; refine hf.out.mono ?_; rintro e w2 ⟨rfl, hb2⟩)
    go_ret
    exact ⟨rfl, ⟨v, hR.out.below hb2⟩, hb2.mono hN⟩
  | some k =>
    obtain ⟨e1, hkl⟩ := findP_at hk
    have e2 : turnS id on l = l.modify k fun x => { x with off := !on } := by unfold turnS; rw [hk]
    rw [e1] at hf ⊢
    rw [e2, if_neg (by omega)]
    rcases row_elem hR.row with ⟨rfl, _⟩ | ⟨g, cap, rfl, hN2, hg, hcap, hm, hel⟩
    · simp at hkl
    have z0 : (0 : Int) ≤ (k : Int) := by omega
    have z1 : (k : Int) < (l.length : Int) := by omega
    have hp := hR.blk.lt
    have hel2 := Lib.hid (fun w' (hb : Below W.heap.size W w') => (⟨(hb.cell (p := ⟨p, 0, none⟩) hp).trans (hR.blk.cell 0), (hb.cell (p := ⟨g, k * 6 + 4, none⟩) hg).trans ((hel k hkl).1 4 _ rfl), (hb.frozen (p := ⟨g, k * 6 + 4, none⟩) hg).trans ((hel k hkl).2 4 (by omega)).2, Nat.lt_of_lt_of_le hg hb.size⟩ : _ ∧ _ ∧ _ ∧ _))
    simp only [List.getElem?_cons_zero] at hel2
    have hend := Lib.hid (fun w' (hb : Below W.heap.size W w') => (hR.below hb).off rfl hkl (!on))
    clear hel hk e1 e2 hm hR
    go_enter Try.func26, Try.ntmps26
    go_wp2_with (go_at_call 46; refine hf.out.mono ?_; rintro e w2 ⟨rfl, hb2⟩; obtain ⟨c0, c1, c2, c3⟩ := hel2.out _ hb2)
    go_ret
    exact ⟨rfl, ⟨_, hend.out _ hb2⟩, (hb2.mono hN).setCell (by show N ≤ g; omega) _⟩
end Go.Proofs.Ytlaafamodaogmaa
