/-
  The search for a breakpoint; of chapter 28.
  Conditions: as each theorem states them.
-/
import Derived.Test.YtcjcflmnghhbaaaGreatStopPa
import Derived.Deep.LoopGhost
namespace Go.Proofs.YtcjcflmnghhbaaaGreat
open Go.RowKit
set_option linter.unusedVariables false
set_option linter.unusedSimpArgs false
/-- a function that asks for a number -/
def AskC (k : FuncId) : Prop := ∀ (x : Stp) (id : Int) (b : Nat) (W : World), W.cell? ⟨b, 0, none⟩ = some (.int .i64 id) → b < W.heap.size →
  Calls Tryz.prog k #[.agg x.cells.toArray, .pointer (some ⟨b, 0, none⟩)] W fun e w' => e = .returned (.bool (x.id == id)) ∧ Below W.heap.size W w'
theorem ask_find : AskC 29 := by
  intro x id b W hc hb
  unfold Stp.cells
  go_enter Tryz.func29, Tryz.ntmps29
  go_wp2_with fail
  go_ret
  exact ⟨rfl, bl_alloc (Below.refl _ _) _⟩
theorem ask_delete : AskC 22 := by
  intro x id b W hc hb
  unfold Stp.cells
  go_enter Tryz.func22, Tryz.ntmps22
  go_wp2_with fail
  go_ret
  exact ⟨rfl, bl_alloc (Below.refl _ _) _⟩
/-- the place of a number -/
def findP (id : Int) (l : List Stp) : Int := match l.findIdx? (fun x => x.id == id) with
  | some i => (i : Int)
  | none => -1
theorem findP_none {id : Int} {l : List Stp} (h : ∀ j (hj : j < l.length), (l[j].id == id) = false) : findP id l = -1 := by
  unfold findP
  rw [List.findIdx?_eq_none_iff.2 (fun x hx => by
    obtain ⟨j, hj, rfl⟩ := List.getElem_of_mem hx
    exact h j hj)]
theorem findP_some {id : Int} {l : List Stp} {k : Nat} (hk : k < l.length) (h : (l[k].id == id) = true) (hn : ∀ j (hj : j < k), (l[j].id == id) = false) : findP id l = (k : Int) := by
  unfold findP
  rw [List.findIdx?_eq_some_iff_getElem.2 ⟨hk, h, fun j hj => by rw [hn j hj]; simp⟩]
set_option maxHeartbeats 4000000 in
set_option maxRecDepth 100000 in
theorem index_any {k : FuncId} (hE : Ent k) (hA : AskC k) {N : Nat} {W : World} {v : Value} {l : List Stp} (h : W.ownsRow N 75 6 v l.length (stpsC l)) (hl : l.length ≤ 1000000) {id : Int} {b : Nat} (hc : W.cell? ⟨b, 0, none⟩ = some (.int .i64 id)) (hb : b < W.heap.size) :
    Calls Tryz.prog 28 #[v, .func (.func k) #[] #[.pointer (some ⟨b, 0, none⟩)]] W fun e w' => e = .returned (.int .i64 (findP id l)) ∧ Below W.heap.size W w' := by
  unfold Ent at hE
  rcases row_elem h with ⟨rfl, rfl⟩ | ⟨g, cap, rfl, hN, hg, hcap, hm, hel⟩
  · clear h hA hc hb hl
    go_enter Tryz.func28, Tryz.ntmps28
    go_wp2_with fail
    go_loopg [8] 0 (fun gh v wr => v = .int .i64 0 ∧ W = wr)
    case atStart => exact ⟨rfl, rfl⟩
    case round =>
      obtain ⟨rfl, rfl⟩ := hrel
      go_wp2_with fail
      go_ret
      exact ⟨rfl, Below.refl _ _⟩
  · have hcl := Lib.hid (fun (x : Stp) wr (hw : Below W.heap.size W wr) => (hA x id b wr ((hw.cell (p := ⟨b, 0, none⟩) hb).trans hc) (Nat.lt_of_lt_of_le hb hw.size)).mono (R' := fun e w2 => e = .returned (.bool (x.id == id)) ∧ Below W.heap.size W w2) (fun e w2 he => ⟨he.1, bl_trans hw he.2⟩))
    replace hel := Lib.hid hel
    clear h hA hc hb
    go_enter Tryz.func28, Tryz.ntmps28
    go_wp2_with fail
    go_loopg [8] l.length (fun gh v wr => ∃ i : Nat, gh = l.length - i ∧ v = .int .i64 (i : Int) ∧ i ≤ l.length ∧ Hid (∀ j (hj : j < l.length), j < i → (l[j].id == id) = false) ∧ Hid (Below W.heap.size W wr))
    case atStart => exact ⟨0, by omega, rfl, Nat.zero_le _, Lib.hid (fun j _ h => absurd h (Nat.not_lt_zero _)), Lib.hid (Below.refl _ _)⟩
    case round =>
      obtain ⟨i, rfl, rfl, hi, hn, hbr⟩ := hrel
      by_cases hlt : i < l.length
      · have hx := (hel.out i hlt).1
        have k0 : ∀ j u, (l[i]).cells[j]? = some u → wr.cell? ⟨g, i * 6 + j, none⟩ = some u := fun j u hu => (hbr.out.cell (p := ⟨g, i * 6 + j, none⟩) hg).trans (hx j u hu)
        have c0 : wr.cell? ⟨g, i * 6, none⟩ = some (.int .i64 (l[i]).id) := by have := k0 0 _ rfl; rwa [Nat.add_zero] at this
        have c1 := k0 1 _ rfl
        have c2 := k0 2 _ rfl
        have c3 := k0 3 _ rfl
        have c4 := k0 4 _ rfl
        have c5 := k0 5 _ rfl
        have hg2 : g < wr.heap.size := Nat.lt_of_lt_of_le hg hbr.out.size
        have hcx := hcl.out l[i] wr hbr.out
        unfold Stp.cells at hcx
        clear hx k0
        obtain ⟨x, hxe⟩ : ∃ x, l[i] = x := ⟨_, rfl⟩
        rw [hxe] at c0 c1 c2 c3 c4 c5 hcx
        replace hcx := Lib.hid hcx
        replace hxe := Lib.hid hxe
        obtain ⟨B, hB⟩ : ∃ B, (x.id == id) = B := ⟨_, rfl⟩
        rw [hB] at hcx
        replace hB := Lib.hid hB
        replace hbr := Lib.hid hbr
        have z0 : (0 : Int) ≤ (i : Int) := by omega
        have z1 : (i : Int) < (l.length : Int) := by omega
        cases B
        · go_wp2_with ((with_reducible refine hcx.out.mono ?_); rintro e w2 ⟨rfl, hb2⟩)
          go_roundg (l.length - (i + 1))
          case measure => omega
          case rel => exact ⟨i + 1, rfl, by go_num, by omega, Lib.hid (fun j hj h => by by_cases e : j = i; (subst e; rw [hxe.out]; exact hB.out); exact hn.out j hj (by omega)), Lib.hid hb2⟩
        · have hf := Lib.hid (findP_some hlt (by rw [hxe.out]; exact hB.out) (fun j hj => hn.out j (by omega) hj))
          go_wp2_with ((with_reducible refine hcx.out.mono ?_); rintro e w2 ⟨rfl, hb2⟩)
          go_ret
          exact ⟨by rw [hf.out]; rfl, hb2⟩
      · obtain rfl : i = l.length := by omega
        have hf := Lib.hid (findP_none (id := id) (fun j hj => hn.out j hj hj))
        replace hbr := Lib.hid hbr
        go_wp2_with fail
        go_ret
        exact ⟨by rw [hf.out]; rfl, hbr.out.out⟩
end Go.Proofs.YtcjcflmnghhbaaaGreat
/-
  Stops.find, Turn, Get; of chapter 28.
  Conditions: as each theorem states them.
-/
namespace Go.Proofs.YtcjcflmnghhbaaaGreat
open Go.RowKit
set_option linter.unusedVariables false
set_option linter.unusedSimpArgs false
/-- one cell of a row is written -/
theorem own_set {w : World} {base : Nat} {e : TypeId} {size : Nat} {v : Value} {n : Nat} {xs : List Value} (h : w.ownsRow base e size v n xs) {g : Nat} (hg : v.ownBlock = some g) {j : Nat} (hj : j < n * size) (u : Value) : (w.setCell ⟨g, j, none⟩ u).ownsRow base e size v n (xs.set j u) := by
  refine ⟨by rw [List.length_set]; exact h.1, ?_⟩
  rcases h.2 with ⟨h1, h2⟩ | ⟨g2, cap, cur, h1, h2, h3, h4, h5, h6, h7⟩
  · rw [h1] at hg; simp [Value.ownBlock] at hg
  · rw [h1] at hg
    have hgg : g2 = g := by simpa [Value.ownBlock] using hg
    subst hgg
    have hB : Blk w g2 e cur.toList := by show w.heap[g2]? = _; rw [h3]
    have hB2 := hB.set j u
    refine .inr ⟨g2, cap, (cur.toList.set j u).toArray, h1, h2, hB2, h4, h5, by simpa using h6, ?_⟩
    rw [← h7]
    exact List.take_set
theorem stps_off : ∀ (l : List Stp) (k : Nat) (o : Bool), k < l.length → stpsC (l.modify k fun x => { x with off := o }) = (stpsC l).set (k * 6 + 4) (.bool o)
  | [], k, o, h => by simp at h
  | x :: l, 0, o, _ => by simp [stpsC, Stp.cells, Stp.ptr]
  | x :: l, k + 1, o, h => by
    have ih := stps_off l k o (by simpa using h)
    show x.cells ++ stpsC (l.modify k _) = (x.cells ++ stpsC l).set ((k + 1) * 6 + 4) _
    rw [ih, List.set_append_right _ _ (by rw [Stp.cells_len]; omega), Stp.cells_len, show (k + 1) * 6 + 4 - 6 = k * 6 + 4 by omega]
/-- a breakpoint is turned on, or off -/
def turnS (id : Int) (on : Bool) (l : List Stp) : List Stp := match l.findIdx? (fun x => x.id == id) with
  | some k => l.modify k fun x => { x with off := !on }
  | none => l
theorem mem_off {l : List Stp} {k : Nat} {o : Bool} {x : Stp} (h : x ∈ l.modify k fun x => { x with off := o }) : ∃ y ∈ l, x.c = y.c := by
  obtain ⟨j, hj, rfl⟩ := List.getElem_of_mem h
  rw [List.getElem_modify]
  simp only [List.length_modify] at hj
  split
  · exact ⟨l[j], List.getElem_mem hj, rfl⟩
  · exact ⟨l[j], List.getElem_mem hj, rfl⟩
theorem CAt.same {p : Nat} {v : Value} {W : World} {x y : Stp} (h : CAt p v W x) (e : y.c = x.c) : CAt p v W y := fun cb lo hi phi h2 => h cb lo hi phi (by rw [← e]; exact h2)
theorem StopsR.off {N : Nat} {W : World} {p : Nat} {v : Value} {l : List Stp} {last : Int} (h : StopsR N W p v l last) {g k : Nat} (hg : v.ownBlock = some g) (hk : k < l.length) (o : Bool) : StopsR N (W.setCell ⟨g, k * 6 + 4, none⟩ (.bool o)) p v (l.modify k fun x => { x with off := o }) last := by
  have hne : g ≠ p := fun e => h.apart (by rw [hg, e])
  refine ⟨h.np, h.blk.set_other (p := ⟨g, k * 6 + 4, none⟩) hne _, ?_, h.apart, fun x hx => ?_⟩
  · rw [stps_off l k o hk, List.length_modify]
    exact own_set h.row hg (by omega) _
  · obtain ⟨y, hy, e⟩ := mem_off hx
    exact ((h.conds y hy).only (K := fun j => j = g) ((Only.refl (fun j => j = g) W).setCell (p := ⟨g, k * 6 + 4, none⟩) rfl _) (fun j hj => .inr (.inl (by rw [hg, hj])))).same e
set_option maxHeartbeats 4000000 in
set_option maxRecDepth 100000 in
theorem find_any {N : Nat} {W : World} {p : Nat} {l : List Stp} {last : Int} (h : StopsAt N W p l last) (hl : l.length ≤ 1000000) (id : Int) :
    Calls Tryz.prog 23 #[.pointer (some ⟨p, 0, none⟩), .int .i64 id] W fun e w' => e = .returned (.int .i64 (findP id l)) ∧ Below W.heap.size W w' := by
  obtain ⟨v, hR⟩ := h
  have hx := Lib.hid (fun w' (hb : Below W.heap.size W w') b (hc : w'.cell? ⟨b, 0, none⟩ = some (.int .i64 id)) (hl2 : b < w'.heap.size) => index_any (ent_at (by kernel_rfl) : Ent 29) ask_find (ownsRow_below hR.row hb) hl hc hl2)
  have k0 : W.cell? ⟨p, 0, none⟩ = some v := hR.blk.cell 0
  have hp := hR.blk.lt
  obtain ⟨va, vc, rfl⟩ := own_slice hR.row
  clear hR
  go_enter Tryz.func23, Tryz.ntmps23
  go_wp2_with (go_at_call 28; refine (hx.out _ (bl_alloc (Below.refl _ _) _) W.heap.size (by simpa only [List.getElem?_cons_zero] using (Blk.new W 3 [.int .i64 id]).cell 0) (by simp)).mono ?_; rintro e w2 ⟨rfl, hb2⟩)
  go_ret
  exact ⟨rfl, bl_trans (bl_alloc (Below.refl _ _) _) hb2⟩
theorem findP_at {id : Int} {l : List Stp} {k : Nat} (h : l.findIdx? (fun x => x.id == id) = some k) : findP id l = (k : Int) ∧ k < l.length := by
  unfold findP
  rw [h]
  exact ⟨rfl, (List.findIdx?_eq_some_iff_getElem.1 h).1⟩
theorem turn_nil (id : Int) (on : Bool) (W : World) : Calls Tryz.prog 9 #[.pointer none, .int .i64 id, .bool on] W fun e w' => e = .returned (.int .i64 1) ∧ W = w' := by
  go_enter Tryz.func9, Tryz.ntmps9
  go_wp2_with fail
  go_ret
  exact ⟨rfl, rfl⟩
set_option maxHeartbeats 4000000 in
set_option maxRecDepth 100000 in
theorem turn_any {N : Nat} {W : World} {p : Nat} {l : List Stp} {last : Int} (h : StopsAt N W p l last) (hN : N ≤ W.heap.size) (hl : l.length ≤ 1000000) (id : Int) (on : Bool) :
    Calls Tryz.prog 9 #[.pointer (some ⟨p, 0, none⟩), .int .i64 id, .bool on] W fun e w' => e = .returned (.int .i64 (if findP id l < 0 then 6 else 0)) ∧ StopsAt N w' p (turnS id on l) last ∧ Below N W w' := by
  have hf := Lib.hid (find_any h hl id)
  obtain ⟨v, hR⟩ := h
  cases hk : l.findIdx? (fun x => x.id == id) with
  | none =>
    have e1 : findP id l = -1 := by unfold findP; rw [hk]
    have e2 : turnS id on l = l := by unfold turnS; rw [hk]
    rw [e1] at hf ⊢
    rw [e2]
    replace hR := Lib.hid hR
    clear hk e1 e2
    go_enter Tryz.func9, Tryz.ntmps9
    go_wp2_with (go_at_call 23; refine hf.out.mono ?_; rintro e w2 ⟨rfl, hb2⟩)
    go_ret
    exact ⟨rfl, ⟨v, hR.out.below hb2⟩, hb2.mono hN⟩
  | some k =>
    obtain ⟨e1, hkl⟩ := findP_at hk
    have e2 : turnS id on l = l.modify k fun x => { x with off := !on } := by unfold turnS; rw [hk]
    rw [e1] at hf ⊢
    rw [e2, if_neg (by omega)]
    rcases row_elem hR.row with ⟨rfl, _⟩ | ⟨g, cap, rfl, hN2, hg, hcap, hm, hel⟩
    · simp at hkl
    have z0 : (0 : Int) ≤ (k : Int) := by omega
    have z1 : (k : Int) < (l.length : Int) := by omega
    have hp := hR.blk.lt
    have hel2 := Lib.hid (fun w' (hb : Below W.heap.size W w') => (⟨(hb.cell (p := ⟨p, 0, none⟩) hp).trans (hR.blk.cell 0), (hb.cell (p := ⟨g, k * 6 + 4, none⟩) hg).trans ((hel k hkl).1 4 _ rfl), (hb.frozen (p := ⟨g, k * 6 + 4, none⟩) hg).trans ((hel k hkl).2 4 (by omega)).2, Nat.lt_of_lt_of_le hg hb.size⟩ : _ ∧ _ ∧ _ ∧ _))
    simp only [List.getElem?_cons_zero] at hel2
    have hend := Lib.hid (fun w' (hb : Below W.heap.size W w') => (hR.below hb).off rfl hkl (!on))
    clear hel hk e1 e2 hm hR
    go_enter Tryz.func9, Tryz.ntmps9
    go_wp2_with (go_at_call 23; refine hf.out.mono ?_; rintro e w2 ⟨rfl, hb2⟩; obtain ⟨c0, c1, c2, c3⟩ := hel2.out _ hb2)
    go_ret
    exact ⟨rfl, ⟨_, hend.out _ hb2⟩, (hb2.mono hN).setCell (by show N ≤ g; omega) _⟩
end Go.Proofs.YtcjcflmnghhbaaaGreat
