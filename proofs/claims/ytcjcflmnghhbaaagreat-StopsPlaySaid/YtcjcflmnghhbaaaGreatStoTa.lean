/-
  Stops.Turn, Delete: what they write; of chapter 28.
  Conditions: as each theorem states them.
-/
import Derived.Test.YtcjcflmnghhbaaaGreatStopBo
import Derived.Test.YtcjcflmnghhbaaaGreatStopE
import Derived.Test.YtcjcflmnghhbaaaGreatStopFt
import Derived.Test.YtcjcflmnghhbaaaGreatStopG
import Derived.Test.YtcjcflmnghhbaaaGreatStopHi
namespace Go.Proofs.YtcjcflmnghhbaaaGreat
open Go.RowKit
set_option linter.unusedVariables false
set_option linter.unusedSimpArgs false
set_option maxHeartbeats 4000000 in
set_option maxRecDepth 100000 in
theorem turn_own {N : Nat} {W : World} {p : Nat} {v : Value} {l : List Stp} {last : Int} (hR : StopsR N W p v l last) (hN : N ≤ W.heap.size) (hl : l.length ≤ 1000000) (id : Int) (on : Bool) :
    Calls Tryz.prog 9 #[.pointer (some ⟨p, 0, none⟩), .int .i64 id, .bool on] W fun e w' => e = .returned (.int .i64 (if findP id l < 0 then 6 else 0)) ∧ StopsR N w' p v (turnS id on l) last ∧ Only (OwnK p W.heap.size v) W w' := by
  have hf := Lib.hid (find_any ⟨v, hR⟩ hl id)
  cases hk : l.findIdx? (fun x => x.id == id) with
  | none =>
    have e1 : findP id l = -1 := by unfold findP; rw [hk]
    have e2 : turnS id on l = l := by unfold turnS; rw [hk]
    rw [e1] at hf ⊢
    rw [e2]
    replace hR := Lib.hid hR
    clear hk e1 e2
    go_enter Tryz.func9, Tryz.ntmps9
    go_wp2_with (go_at_call 23; refine hf.out.mono ?_; rintro e w2 ⟨rfl, hb2⟩)
    go_ret
    exact ⟨rfl, hR.out.below hb2, Only.of_below hb2⟩
  | some k =>
    obtain ⟨e1, hkl⟩ := findP_at hk
    have e2 : turnS id on l = l.modify k fun x => { x with off := !on } := by unfold turnS; rw [hk]
    rw [e1] at hf ⊢
    rw [e2, if_neg (by omega)]
    rcases row_elem hR.row with ⟨rfl, _⟩ | ⟨g, cap, rfl, hN2, hg, hcap, hm, hel⟩
    · simp at hkl
    have z0 : (0 : Int) ≤ (k : Int) := by omega
    have z1 : (k : Int) < (l.length : Int) := by omega
    have hp := hR.blk.lt
    have hel2 := Lib.hid (fun w' (hb : Below W.heap.size W w') => (⟨(hb.cell (p := ⟨p, 0, none⟩) hp).trans (hR.blk.cell 0), (hb.cell (p := ⟨g, k * 6 + 4, none⟩) hg).trans ((hel k hkl).1 4 _ rfl), (hb.frozen (p := ⟨g, k * 6 + 4, none⟩) hg).trans ((hel k hkl).2 4 (by omega)).2, Nat.lt_of_lt_of_le hg hb.size⟩ : _ ∧ _ ∧ _ ∧ _))
    simp only [List.getElem?_cons_zero] at hel2
    have hend := Lib.hid (fun w' (hb : Below W.heap.size W w') => (hR.below hb).off rfl hkl (!on))
    clear hel hk e1 e2 hm hR
    go_enter Tryz.func9, Tryz.ntmps9
    go_wp2_with (go_at_call 23; refine hf.out.mono ?_; rintro e w2 ⟨rfl, hb2⟩; obtain ⟨c0, c1, c2, c3⟩ := hel2.out _ hb2)
    go_ret
    exact ⟨rfl, hend.out _ hb2, Only.setCell (S := OwnK p W.heap.size (.slice (some ⟨g, 0, none⟩) l.length cap)) (Only.of_below hb2) (p := ⟨g, k * 6 + 4, none⟩) (.inr (.inl rfl)) _⟩
set_option maxHeartbeats 4000000 in
set_option maxRecDepth 100000 in
theorem delete_own {N : Nat} {W : World} {p : Nat} {v : Value} {l : List Stp} {last : Int} (hR : StopsR N W p v l last) (hN : N ≤ W.heap.size) (hl : l.length ≤ 1000000) (id : Int) :
    Calls Tryz.prog 7 #[.pointer (some ⟨p, 0, none⟩), .int .i64 id] W fun e w' => e = .returned (.int .i64 (if (delS id l).length = l.length then 6 else 0)) ∧ (∃ v', StopsR N w' p v' (delS id l) last ∧ v'.ownBlock = v.ownBlock) ∧ Only (OwnK p W.heap.size v) W w' := by
  have hB := Blk.new W 3 [.int .i64 id]
  have hb1 : Below W.heap.size W (W.alloc (.cells [.int .i64 id].toArray 3)) := bl_alloc (Below.refl _ _) _
  have hR1 := hR.below hb1
  have hvb : v.ownBlock ≠ some W.heap.size := fun e => by have := (hR.row.lt _ e).2; omega
  have hdf := Lib.hid (delfunc_any (ent_at (by kernel_rfl) : Ent 22) ask_delete hR1.row hl (hB.cell 0) hB.lt hvb)
  have hp := hR.blk.lt
  have c0 : W.cell? ⟨p, 0, none⟩ = some v := hR.blk.cell 0
  have hnp := hR.np
  have hvl := Lib.hid (fun r (hr : v.ownBlock = some r) => (hR.row.lt r hr).1)
  obtain ⟨va, vc, rfl⟩ := own_slice hR.row
  have hend := Lib.hid (fun w2 v' (hr : w2.ownsRow N 75 6 v' (delS id l).length (stpsC (delS id l))) (he : v'.ownBlock = (Value.slice va l.length vc).ownBlock) (hO : Only (fun k => (Value.slice va l.length vc).ownBlock = some k) (W.alloc (.cells [.int .i64 id].toArray 3)) w2) =>
    (⟨hR1.del id hO hr he, ((Only.of_below hb1).trans (hO.mono (fun k hk => .inr (.inl hk)))).setCell (p := ⟨p, 0, none⟩) (.inl rfl) _, (hR1.blk.only hO hR1.apart).cell 0, (hR1.blk.only hO hR1.apart).free 0, (hR1.blk.only hO hR1.apart).lt⟩ : StopsR N (w2.setCell ⟨p, 0, none⟩ v') p v' (delS id l) last ∧ Only (OwnK p W.heap.size (.slice va l.length vc)) W (w2.setCell ⟨p, 0, none⟩ v') ∧ w2.cell? ⟨p, 0, none⟩ = some (.slice va l.length vc) ∧ w2.frozen? ⟨p, 0, none⟩ = false ∧ p < w2.heap.size))
  clear hR hB hb1 hR1 hvb
  obtain ⟨m, hm⟩ : ∃ m, (delS id l).length = m := ⟨_, rfl⟩
  obtain ⟨D, hD⟩ : ∃ D, delS id l = D := ⟨_, rfl⟩
  rw [hm, hD] at hdf hend
  rw [hm, hD]
  have hml : m ≤ l.length := by rw [← hm]; exact List.length_filter_le _ _
  replace hm := Lib.hid hm
  replace hD := Lib.hid hD
  by_cases he : m = l.length
  · subst he
    rw [if_pos rfl]
    go_enter Tryz.func7, Tryz.ntmps7
    go_wp2_with (go_at_call 21; refine hdf.out.mono ?_; rintro e w2 ⟨v', rfl, hr, he, hO⟩; obtain ⟨va2, vc2, rfl⟩ := own_slice hr; obtain ⟨h1, h2, h3, h4, h5⟩ := hend.out w2 _ hr he hO; replace h1 := Lib.hid h1; replace h2 := Lib.hid h2; have he' := Lib.hid he; clear hr he hO)
    go_ret
    exact ⟨rfl, ⟨_, h1.out, he'.out⟩, h2.out⟩
  · rw [if_neg he]
    have q0 : ((m : Int) == (l.length : Int)) = false := by simp; omega
    go_enter Tryz.func7, Tryz.ntmps7
    go_wp2_with (go_at_call 21; refine hdf.out.mono ?_; rintro e w2 ⟨v', rfl, hr, he, hO⟩; obtain ⟨va2, vc2, rfl⟩ := own_slice hr; obtain ⟨h1, h2, h3, h4, h5⟩ := hend.out w2 _ hr he hO; replace h1 := Lib.hid h1; replace h2 := Lib.hid h2; have he' := Lib.hid he; clear hr he hO)
    go_ret
    exact ⟨rfl, ⟨_, h1.out, he'.out⟩, h2.out⟩
end Go.Proofs.YtcjcflmnghhbaaaGreat
/-
  The reference's breakpoints in memory, beside the program's; of chapter 28.
  Conditions: as each theorem states them.
-/
namespace Go.Proofs.YtcjcflmnghhbaaaGreat
open Go.RowKit
set_option linter.unusedVariables false
set_option linter.unusedSimpArgs false
theorem brksC_len (l : List Stp) : (brksC l).length = l.length * 5 := by
  induction l with
  | nil => rfl
  | cons x l ih =>
    unfold brksC at ih ⊢
    rw [List.flatMap_cons, List.length_append, ih, List.length_cons]
    show 5 + _ = _
    omega
theorem brksC_app (l m : List Stp) : brksC (l ++ m) = brksC l ++ brksC m := by unfold brksC; exact List.flatMap_append
theorem brksC_get : ∀ (l : List Stp) (i j : Nat) (hi : i < l.length), j < 5 → (brksC l)[i * 5 + j]? = (l[i]).brk[j]?
  | [], i, j, hi, _ => by simp at hi
  | x :: l, 0, j, _, hj => by
    show (x.brk ++ brksC l)[0 * 5 + j]? = x.brk[j]?
    rw [Nat.zero_mul, Nat.zero_add, List.getElem?_append_left (by show j < 5; exact hj)]
  | x :: l, i + 1, j, hi, hj => by
    show (x.brk ++ brksC l)[(i + 1) * 5 + j]? = _
    rw [List.getElem?_append_right (by show 5 ≤ _; omega), show (i + 1) * 5 + j - x.brk.length = i * 5 + j by show (i + 1) * 5 + j - 5 = _; omega]
    exact brksC_get l i j (by simpa using hi) hj
/-- the reference's breakpoints -/
structure RefL (W : World) (xb : Nat) (rv : Value) (l : List Stp) (last : Int) : Prop where
  blk : Blk W xb 43 [rv, .int .i64 last]
  row : W.ownsRow 0 60 5 rv l.length (brksC l)
  apart : rv.ownBlock ≠ some xb
/-- what the reference's calls write -/
def RefK (xb : Nat) (rv : Value) (k : Nat) : Prop := k = xb ∨ rv.ownBlock = some k
theorem RefL.only {K : Nat → Prop} {W W' : World} {xb : Nat} {rv : Value} {l : List Stp} {last : Int} (h : RefL W xb rv l last) (ho : Only K W W') (hx : ¬ K xb) (hr : ∀ r, rv.ownBlock = some r → ¬ K r) : RefL W' xb rv l last :=
  ⟨h.blk.only ho hx, ownsRow_only h.row ho hr, h.apart⟩
theorem RefL.below {W W' : World} {xb : Nat} {rv : Value} {l : List Stp} {last : Int} (h : RefL W xb rv l last) (hb : Below W.heap.size W W') : RefL W' xb rv l last := h.only (K := fun _ => False) (Only.of_below hb) id (fun _ _ => id)
/-- a breakpoint's place in the reference's row -/
theorem RefL.elem {W : World} {xb : Nat} {rv : Value} {l : List Stp} {last : Int} (h : RefL W xb rv l last) {i : Nat} (hi : i < l.length) : ∃ g cap, rv = .slice (some ⟨g, 0, none⟩) l.length cap ∧ g < W.heap.size ∧ ∀ i (hi : i < l.length), ∀ j u, (l[i]).brk[j]? = some u → W.cell? ⟨g, i * 5 + j, none⟩ = some u ∧ W.frozen? ⟨g, i * 5 + j, none⟩ = false := by
  rcases h.row.2 with ⟨h1, h2⟩ | ⟨g, cap, cur, h1, h2, h3, _⟩
  · omega
  · refine ⟨g, cap, h1, (Array.getElem?_eq_some_iff.1 h3).1, fun i hi j u hu => ?_⟩
    have hj : j < 5 := (List.getElem?_eq_some_iff.1 hu).1
    have hr := h.row
    rw [h1] at hr
    exact ⟨by rw [hr.cellAt _ (by omega), brksC_get l i j hi hj, hu], hr.frozenAt _⟩
theorem StopsR.only {K : Nat → Prop} {N : Nat} {W W' : World} {p : Nat} {v : Value} {l : List Stp} {last : Int} (h : StopsR N W p v l last) (ho : Only K W W') (hp : ¬ K p) (hr : ∀ r, v.ownBlock = some r → ¬ K r) (hc : ∀ x ∈ l, ∀ cb lo hi phi, x.c = some (cb, lo, hi, phi) → ∀ k, K k → k ≤ lo ∨ hi ≤ k) : StopsR N W' p v l last :=
  ⟨h.np, h.blk.only ho hp, ownsRow_only h.row ho hr, h.apart, fun x hx cb lo hi phi e => by
    obtain ⟨h1, h2, h3⟩ := h.conds x hx cb lo hi phi e
    exact ⟨h1.only ho (hc x hx cb lo hi phi e), h2, h3⟩⟩
/-- both, apart from one another -/
structure Both (N : Nat) (W : World) (p : Nat) (v : Value) (xb : Nat) (rv : Value) (l : List Stp) (last : Int) : Prop where
  S : StopsR N W p v l last
  R : RefL W xb rv l last
  px : p ≠ xb
  pr : rv.ownBlock ≠ some p
  xv : v.ownBlock ≠ some xb
  vr : ∀ r, v.ownBlock = some r → rv.ownBlock ≠ some r
  conds : ∀ x ∈ l, ∀ cb lo hi phi, x.c = some (cb, lo, hi, phi) → ∀ k, RefK xb rv k → k ≤ lo ∨ hi ≤ k
theorem Both.below {N : Nat} {W W' : World} {p : Nat} {v : Value} {xb : Nat} {rv : Value} {l : List Stp} {last : Int} (h : Both N W p v xb rv l last) (hb : Below W.heap.size W W') : Both N W' p v xb rv l last :=
  ⟨h.S.below hb, h.R.below hb, h.px, h.pr, h.xv, h.vr, h.conds⟩
/-- the reference's side behind a call of the program's side -/
theorem Both.mid {N : Nat} {W W' : World} {p : Nat} {v : Value} {xb : Nat} {rv : Value} {l : List Stp} {last : Int} (h : Both N W p v xb rv l last) (hO : Only (OwnK p W.heap.size v) W W') : RefL W' xb rv l last := by
  have hx := h.R.blk.lt
  refine h.R.only hO ?_ (fun r hr => ?_)
  · rintro (e | e | e)
    · exact h.px e.symm
    · exact h.xv e
    · omega
  · have hrl := (h.R.row.lt r hr).2
    rintro (e | e | e)
    · exact h.pr (e ▸ hr)
    · exact h.vr r e hr
    · omega
/-- both, behind a call of each -/
theorem Both.step {N : Nat} {W W' W'' : World} {p : Nat} {v v' : Value} {xb : Nat} {rv rv' : Value} {l l' : List Stp} {last last' : Int} (h : Both N W p v xb rv l last)
    (hS : StopsR N W' p v' l' last') (hO : Only (OwnK p W.heap.size v) W W') (hv : ∀ r, v'.ownBlock = some r → v.ownBlock = some r ∨ W.heap.size ≤ r) (hl : ∀ x ∈ l', ∀ cb lo hi phi, x.c = some (cb, lo, hi, phi) → (∃ y ∈ l, y.c = x.c) ∨ W.heap.size ≤ lo)
    (hR : RefL W'' xb rv' l' last') (hO2 : Only (RefK xb rv) W' W'') (hrv : ∀ r, rv'.ownBlock = some r → rv.ownBlock = some r ∨ W'.heap.size ≤ r) : Both N W'' p v' xb rv' l' last' := by
  have hx := h.R.blk.lt
  have hp := h.S.blk.lt
  have hsz := hO.size
  have hcn : ∀ x ∈ l', ∀ cb lo hi phi, x.c = some (cb, lo, hi, phi) → ∀ k, RefK xb rv k → k ≤ lo ∨ hi ≤ k := fun x hxl cb lo hi phi e k hk => by
    rcases hl x hxl cb lo hi phi e with ⟨y, hy, ey⟩ | h1
    · exact h.conds y hy cb lo hi phi (ey.trans e) k hk
    · left
      rcases hk with rfl | hk
      · omega
      · have := (h.R.row.lt k hk).2; omega
  have hvx : v'.ownBlock ≠ some xb := fun e => by
    rcases hv xb e with h1 | h1
    · exact h.xv h1
    · omega
  refine ⟨hS.only hO2 ?_ (fun r hr => ?_) hcn, hR, h.px, fun e => ?_, hvx, fun r hr e => ?_, fun x hxl cb lo hi phi e k hk => ?_⟩
  · rintro (e | e)
    · exact h.px e
    · exact h.pr e
  · rintro (e | e)
    · exact hvx (e ▸ hr)
    · have hrl := (h.R.row.lt r e).2
      rcases hv r hr with h1 | h1
      · exact h.vr r h1 e
      · omega
  · rcases hrv p e with h1 | h1
    · exact h.pr h1
    · omega
  · have hrl := (hS.row.lt r hr).2
    rcases hrv r e with h1 | h1
    · have := (h.R.row.lt r h1).2
      rcases hv r hr with h2 | h2
      · exact h.vr r h2 h1
      · omega
    · omega
  · rcases hk with rfl | hk
    · exact hcn x hxl cb lo hi phi e _ (.inl rfl)
    · rcases hrv k hk with h1 | h1
      · exact hcn x hxl cb lo hi phi e k (.inr h1)
      · have := ((hS.conds x hxl cb lo hi phi e).1).hi
        exact .inr (by omega)
/-- breakpoints as they come about: the numbers rise, and none is above the last one -/
structure Ids (l : List Stp) (last : Int) : Prop where
  rise : l.Pairwise fun x y => x.id < y.id
  le : ∀ x ∈ l, x.id ≤ last
theorem Ids.add {l : List Stp} {last : Int} {x : Stp} (h : Ids l last) (hx : x.id = last + 1) : Ids (l ++ [x]) (last + 1) := by
  refine ⟨List.pairwise_append.2 ⟨h.rise, List.pairwise_singleton _ _, fun a ha b hb => ?_⟩, fun y hy => ?_⟩
  · obtain rfl : b = x := by simpa using hb
    have := h.le a ha; omega
  · rcases List.mem_append.1 hy with hy | hy
    · have := h.le y hy; omega
    · obtain rfl : y = x := by simpa using hy
      omega
theorem Ids.del {l : List Stp} {last : Int} (h : Ids l last) (id : Int) : Ids (delS id l) last := ⟨h.rise.filter _, fun x hx => h.le x (List.mem_filter.1 hx).1⟩
theorem mem_turn {id : Int} {on : Bool} {l : List Stp} {x : Stp} (h : x ∈ turnS id on l) : ∃ y ∈ l, x.c = y.c ∧ x.id = y.id ∧ x.kind = y.kind ∧ x.cond = y.cond := by
  unfold turnS at h
  split at h
  · rename_i k _
    rw [List.mem_iff_getElem] at h
    obtain ⟨i, hi, rfl⟩ := h
    rw [List.length_modify] at hi
    refine ⟨l[i], List.getElem_mem hi, ?_⟩
    rw [List.getElem_modify]
    split <;> exact ⟨rfl, rfl, rfl, rfl⟩
  · exact ⟨x, h, rfl, rfl, rfl, rfl⟩
theorem turn_ids (id : Int) (on : Bool) (l : List Stp) : (turnS id on l).map (·.id) = l.map (·.id) := by
  unfold turnS
  split
  · rename_i k _
    apply List.ext_getElem
    · simp
    · intro i h1 h2
      rw [List.getElem_map, List.getElem_map, List.getElem_modify]
      split <;> rfl
  · rfl
theorem Ids.turn {l : List Stp} {last : Int} (h : Ids l last) (id : Int) (on : Bool) : Ids (turnS id on l) last := by
  refine ⟨?_, fun x hx => by obtain ⟨y, hy, _, e, _⟩ := mem_turn hx; rw [e]; exact h.le y hy⟩
  have h1 := List.pairwise_map.2 h.rise
  rw [← turn_ids id on l] at h1
  exact List.pairwise_map.1 h1
theorem turn_len (id : Int) (on : Bool) (l : List Stp) : (turnS id on l).length = l.length := by have := congrArg List.length (turn_ids id on l); simpa using this
/-- the first of a number is the only one -/
theorem del_at {id : Int} {l : List Stp} {last : Int} (h : Ids l last) {k : Nat} (hk : k < l.length) (he : (l[k].id == id) = true) : delS id l = l.take k ++ l.drop (k + 1) := by
  have hid : l[k].id = id := by simpa using he
  have hp := List.pairwise_iff_getElem.1 h.rise
  have e : l = l.take k ++ l[k] :: l.drop (k + 1) := by rw [List.getElem_cons_drop, List.take_append_drop]
  have h1 : (l.take k).filter (fun x => !(x.id == id)) = l.take k := List.filter_eq_self.2 fun x hx => by
    obtain ⟨i, hi, rfl⟩ := List.mem_iff_getElem.1 hx
    rw [List.getElem_take]
    have := hp i k (by simp at hi; omega) hk (by simp at hi; omega)
    simp; omega
  have h2 : (l.drop (k + 1)).filter (fun x => !(x.id == id)) = l.drop (k + 1) := List.filter_eq_self.2 fun x hx => by
    obtain ⟨i, hi, rfl⟩ := List.mem_iff_getElem.1 hx
    rw [List.getElem_drop]
    have := hp k (k + 1 + i) hk (by simp at hi; omega) (by omega)
    simp; omega
  unfold delS
  conv => lhs; rw [e]
  rw [List.filter_append, List.filter_cons_of_neg (by simp [hid]), h1, h2]
theorem del_none {id : Int} {l : List Stp} (h : ∀ j (hj : j < l.length), (l[j].id == id) = false) : delS id l = l := List.filter_eq_self.2 fun x hx => by
  obtain ⟨i, hi, rfl⟩ := List.mem_iff_getElem.1 hx
  rw [h i hi]; rfl
end Go.Proofs.YtcjcflmnghhbaaaGreat
