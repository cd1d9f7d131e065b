/-
  slices.DeleteFunc at breakpoints, Stops.Delete; of chapter 28.
  Conditions: as each theorem states them.
-/
import Derived.Test.YtcjcflmnghhbaaaGreatStopFt
import Derived.Test.YtcjcflmnghhbaaaGreatCutQ
import Derived.Laws.IdiomCopy
namespace Go.Proofs.YtcjcflmnghhbaaaGreat
open Go.RowKit
set_option linter.unusedVariables false
set_option linter.unusedSimpArgs false
section
variable {P : Program} (w : World) (t : TypeId) (a : Option Addr) (len cap : Nat) (ht : P.underlying t = some (.slice (P.elem t)))
include ht
theorem run_cut_h (kh : IntKind) (h : Int) (h0 : 0 ≤ h) (h2 : h ≤ cap) :
    (Instr.sliceAt t (.slice a len cap) none (some (.int kh h)) none).run P w =
      ((sizeOf (P.elem t)).run P w).andThen fun s w => .ok (.slice a h.toNat cap) w := by
  have hz : ∀ s, cutA a 0 cap s = a := fun s => by
    unfold cutA
    split
    · rfl
    · cases a with
      | none => rfl
      | some a => simp [Addr.add]
  rw [run_sliceAt_slice w t _ _ _ _ ht, run_slice_h w t a len cap ht kh h h0 h2]
  simp only [sliced_eq, hz, Nat.sub_zero]
theorem run_cut_l (kl : IntKind) (l : Int) (h0 : 0 ≤ l) (h1 : l ≤ len) :
    (Instr.sliceAt t (.slice a len cap) (some (.int kl l)) none none).run P w =
      ((sizeOf (P.elem t)).run P w).andThen fun s w => .ok (.slice (cutA a l.toNat cap s) (len - l.toNat) (cap - l.toNat)) w := by
  rw [run_sliceAt_slice w t _ _ _ _ ht, run_slice_l w t a len cap ht kl l h0 h1]; rfl
end
/-- 'clear(s)': the cells hold some other values -/
theorem run_clear_any {P : Program} (w : World) (t e ty : TypeId) (z : Value) (ht : P.underlying t = some (.slice e)) (hv : (zeroValue e).run P w = .ok z w) (h1 : ∀ v ∈ z.cells, v.oneCell' = true) (b o n c size : Nat) (hz : z.cells.size = size) (hn : 0 < n)
    (hc : ∀ j, j < n * size → (w.cell? ⟨b, o + j, none⟩).isSome = true) (hf : ∀ j, j < n * size → w.frozen? ⟨b, o + j, none⟩ = false) :
    ∃ vs, vs.length = n * size ∧ (Builtin.clear_ #[t] ty #[.slice (some ⟨b, o, none⟩) n c]).run P w = .ok (.tuple #[]) (w.setCells b o vs) := by
  have hzl : (Builtin.zeroCells z.cells n).toList.length = n * size := by simp [Builtin.zeroCells, hz]; try rw [Nat.mul_comm]
  have hst := run_storeCells_cells (P := P) b o (Builtin.zeroCells z.cells n).toList 0 w (fun j hj => by simpa using hc j (by rw [← hzl]; exact hj)) (fun j hj => by simpa using hf j (by rw [← hzl]; exact hj)) (fun v hv' => by
    obtain ⟨i, hi, rfl⟩ := List.getElem_of_mem hv'
    simp only [Builtin.zeroCells, Array.getElem_toList, Array.getElem_ofFn] at hi ⊢
    refine h1 _ ?_
    have hsz : 0 < z.cells.size := by
      rcases Nat.eq_zero_or_pos z.cells.size with h | h
      · simp [h] at hi
      · exact h
    rw [Array.getElem_map, getElem!_pos z.cells _ (Nat.mod_lt _ hsz)]
    exact Array.getElem_mem _)
  simp only [Nat.add_zero] at hst
  refine ⟨_, hzl, ?_⟩
  obtain ⟨m, rfl⟩ : ∃ m, n = m + 1 := ⟨n - 1, by omega⟩
  simp [Builtin.clear_, run_underlying ht, hv, hst]
/-- what is left -/
def delS (id : Int) (l : List Stp) : List Stp := l.filter fun x => !(x.id == id)
theorem delS_snoc {id : Int} {l : List Stp} {j : Nat} (h : j < l.length) : delS id (l.take (j + 1)) = delS id (l.take j) ++ if (l[j].id == id) = true then [] else [l[j]] := by
  unfold delS
  rw [List.take_succ_eq_append_getElem h, List.filter_append]
  cases hb : l[j].id == id <;> simp [hb]
theorem delS_same {id : Int} {l : List Stp} {k : Nat} (hk : k ≤ l.length) (h : ∀ j (hj : j < l.length), j < k → (l[j].id == id) = false) : delS id (l.take k) = l.take k := by
  unfold delS
  rw [List.filter_eq_self]
  intro x hx
  obtain ⟨j, hj, rfl⟩ := List.getElem_of_mem hx
  simp only [List.length_take] at hj
  rw [List.getElem_take, h j (by omega) (by omega)]; rfl
def set6 (c : List Value) (o : Nat) (x : Stp) : List Value := (((((c.set o (.int .i64 x.id)).set (o + 1) (.int .i64 x.kind)).set (o + 2) (.int .i64 x.n)).set (o + 3) (strV x.cond)).set (o + 4) (.bool x.off)).set (o + 5) (.pointer x.ptr)
theorem set6_len (c : List Value) (o : Nat) (x : Stp) : (set6 c o x).length = c.length := by simp [set6]
theorem set6_low (c : List Value) (o : Nat) (x : Stp) : (set6 c o x).take o = c.take o := by
  apply List.ext_getElem?
  intro i
  simp only [List.getElem?_take]
  split
  · rename_i h
    unfold set6
    rw [List.getElem?_set_ne (by omega), List.getElem?_set_ne (by omega), List.getElem?_set_ne (by omega), List.getElem?_set_ne (by omega), List.getElem?_set_ne (by omega), List.getElem?_set_ne (by omega)]
  · rfl
theorem set6_high (c : List Value) (o : Nat) (x : Stp) (t : Nat) (h : o + 6 ≤ t) : (set6 c o x)[t]? = c[t]? := by
  unfold set6
  rw [List.getElem?_set_ne (by omega), List.getElem?_set_ne (by omega), List.getElem?_set_ne (by omega), List.getElem?_set_ne (by omega), List.getElem?_set_ne (by omega), List.getElem?_set_ne (by omega)]
theorem set6_mid (c : List Value) (o : Nat) (x : Stp) (h : o + 6 ≤ c.length) (j : Nat) (hj : j < 6) : (set6 c o x)[o + j]? = x.cells[j]? := by
  unfold set6
  rcases (by omega : j = 0 ∨ j = 1 ∨ j = 2 ∨ j = 3 ∨ j = 4 ∨ j = 5) with rfl | rfl | rfl | rfl | rfl | rfl
  all_goals simp [List.getElem?_set, Stp.cells, show o < c.length by omega, show o + 1 < c.length by omega, show o + 2 < c.length by omega, show o + 3 < c.length by omega, show o + 4 < c.length by omega, show o + 5 < c.length by omega]
theorem set6_take (c : List Value) (o : Nat) (x : Stp) (h : o + 6 ≤ c.length) : (set6 c o x).take (o + 6) = c.take o ++ x.cells := by
  apply List.ext_getElem?
  intro i
  rw [List.getElem?_take]
  have hl : (c.take o).length = o := by simp; omega
  split
  · rename_i hi
    by_cases h2 : i < o
    · rw [List.getElem?_append_left (by omega), ← set6_low c o x, List.getElem?_take, if_pos h2]
    · rw [List.getElem?_append_right (by omega), hl]
      have := set6_mid c o x h (i - o) (by omega)
      rwa [show o + (i - o) = i by omega] at this
  · rename_i hi
    rw [List.getElem?_append_right (by omega), hl, List.getElem?_eq_none (by rw [Stp.cells_len]; omega)]
theorem Blk.set6 {w : World} {g : Nat} {t : TypeId} {c : List Value} (h : Blk w g t c) (o : Nat) (x : Stp) :
    Blk ((((((w.setCell ⟨g, o, none⟩ (.int .i64 x.id)).setCell ⟨g, o + 1, none⟩ (.int .i64 x.kind)).setCell ⟨g, o + 2, none⟩ (.int .i64 x.n)).setCell ⟨g, o + 3, none⟩ (strV x.cond)).setCell ⟨g, o + 4, none⟩ (.bool x.off)).setCell ⟨g, o + 5, none⟩ (.pointer x.ptr)) g t (Go.Proofs.YtcjcflmnghhbaaaGreat.set6 c o x) :=
  ((((((h.set o _).set (o + 1) _).set (o + 2) _).set (o + 3) _).set (o + 4) _).set (o + 5) _)
theorem Blk.setCells {g : Nat} {t : TypeId} : ∀ (vs : List Value) (o : Nat) {w : World} {c : List Value} (h : Blk w g t c), ∃ c', Blk (w.setCells g o vs) g t c' ∧ c'.length = c.length ∧ c'.take o = c.take o
  | [], o, w, c, h => ⟨c, h, rfl, rfl⟩
  | v :: vs, o, w, c, h => by
    obtain ⟨c', h1, h2, h3⟩ := Blk.setCells vs (o + 1) (h.set o v)
    refine ⟨c', h1, by rw [h2, List.length_set], ?_⟩
    have := congrArg (List.take o) h3
    rw [List.take_take, List.take_take, Nat.min_eq_left (Nat.le_succ o), List.take_set_of_le (Nat.le_refl o)] at this
    exact this
theorem only_setCells {g : Nat} : ∀ (vs : List Value) (o : Nat) (w : World), Only (fun k => k = g) w (w.setCells g o vs)
  | [], o, w => Only.refl _ w
  | v :: vs, o, w => ((Only.refl (fun k => k = g) w).setCell (p := ⟨g, o, none⟩) rfl v).trans (only_setCells vs (o + 1) _)
theorem wpList_clear_any {P : Program} {w : World} {ops : Array Oper} {rest : List Oper} {o : Oper} {a : Act} {Q : Exit → Act → World → Prop} (hgd : o.guard = none) (x : Operand) (t : TypeId)
    (ho : o.op = .call { callee := .builtin .clear, args := #[x], argTypes := #[t] }) (e : TypeId) (z : Value) (ht : P.underlying t = some (.slice e)) (hv : (zeroValue e).run P w = .ok z w) (h1 : ∀ v ∈ z.cells, v.oneCell' = true) (b off n c size : Nat) (hz : z.cells.size = size) (hn : 0 < n)
    (hx : a.eval x = .slice (some ⟨b, off, none⟩) n c)
    (hc : ∀ j, j < n * size → (w.cell? ⟨b, off + j, none⟩).isSome = true) (hf : ∀ j, j < n * size → w.frozen? ⟨b, off + j, none⟩ = false)
    (h : ∀ vs, vs.length = n * size → wpList P ops Q rest (a.put o.dst (.tuple #[])) (w.setCells b off vs)) :
    wpList P ops Q (o :: rest) a w := by
  refine wpList_plain hgd fun K hK => ?_
  obtain ⟨vs, hl, hr⟩ := run_clear_any (P := P) w t e o.type z ht hv h1 b off n c size hz hn hc hf
  unfold Oper.wp execOp
  simp only [ho, resolve, invoke, builtin, Sem.run_bind, Sem.run_pure, Result.andThen_ok, List.map_toArray, List.map_cons, List.map_nil, hx, hr]
  exact hK _ _ (h vs hl)
theorem zeroStp (w : World) : (zeroValue 75).run Tryz.prog w = .ok (.agg #[.int .i64 0, .int .i64 0, .int .i64 0, .string ⟨#[]⟩, .bool false, .pointer none]) w := by kernel_rfl
theorem zeroStp_one : ∀ v ∈ (Value.agg #[.int .i64 0, .int .i64 0, .int .i64 0, .string ⟨#[]⟩, .bool false, .pointer none]).cells, v.oneCell' = true := by
  intro v hv
  simp only [Value.cells, List.mem_toArray, List.mem_cons, List.not_mem_nil, or_false] at hv
  rcases hv with rfl | rfl | rfl | rfl | rfl | rfl <;> rfl
/-- the row in a round: what is kept stands ahead, what is not asked stands behind -/
structure DelR (g cap : Nat) (id : Int) (l : List Stp) (W : World) (i j : Nat) (wr : World) (cur : List Value) : Prop where
  blk : Blk wr g 75 cur
  len : cur.length = cap * 6
  low : cur.take (i * 6) = stpsC (delS id (l.take j))
  num : (delS id (l.take j)).length = i
  high : ∀ t, j * 6 ≤ t → t < l.length * 6 → cur[t]? = (stpsC l)[t]?
  only : Only (fun k => k = g) W wr
theorem DelR.below {g cap : Nat} {id : Int} {l : List Stp} {W : World} {i j : Nat} {wr w' : World} {cur : List Value} (h : DelR g cap id l W i j wr cur) (hb : Below wr.heap.size wr w') : DelR g cap id l W i j w' cur :=
  ⟨h.blk.below hb, h.len, h.low, h.num, h.high, h.only.trans (Only.of_below hb)⟩
/-- an element that goes -/
theorem DelR.gone {g cap : Nat} {id : Int} {l : List Stp} {W : World} {i j : Nat} {wr : World} {cur : List Value} (h : DelR g cap id l W i j wr cur) (hj : j < l.length) (hm : (l[j].id == id) = true) : DelR g cap id l W i (j + 1) wr cur :=
  ⟨h.blk, h.len, by rw [delS_snoc hj, if_pos hm, List.append_nil]; exact h.low, by rw [delS_snoc hj, if_pos hm, List.append_nil]; exact h.num, fun t h1 h2 => h.high t (by omega) h2, h.only⟩
/-- an element that stays -/
theorem DelR.stays {g cap : Nat} {id : Int} {l : List Stp} {W : World} {i j : Nat} {wr : World} {cur : List Value} (h : DelR g cap id l W i j wr cur) (hij : i < j) (hj : j < l.length) (hcap : l.length ≤ cap) (hm : (l[j].id == id) = false) :
    DelR g cap id l W (i + 1) (j + 1) ((((((wr.setCell ⟨g, i * 6, none⟩ (.int .i64 l[j].id)).setCell ⟨g, i * 6 + 1, none⟩ (.int .i64 l[j].kind)).setCell ⟨g, i * 6 + 2, none⟩ (.int .i64 l[j].n)).setCell ⟨g, i * 6 + 3, none⟩ (strV l[j].cond)).setCell ⟨g, i * 6 + 4, none⟩ (.bool l[j].off)).setCell ⟨g, i * 6 + 5, none⟩ (.pointer l[j].ptr)) (set6 cur (i * 6) l[j]) := by
  have hl := h.len
  refine ⟨h.blk.set6 _ _, by rw [set6_len, hl], ?_, ?_, fun t h1 h2 => ?_, ?_⟩
  · rw [show (i + 1) * 6 = i * 6 + 6 by omega, set6_take _ _ _ (by omega), h.low, delS_snoc hj, hm, if_neg (by simp), stpsC_app]; simp [stpsC]
  · rw [delS_snoc hj, hm, if_neg (by simp), List.length_append, h.num]; rfl
  · rw [set6_high _ _ _ _ (by omega)]; exact h.high t (by omega) h2
  · exact (((((h.only.setCell (p := ⟨g, i * 6, none⟩) rfl _).setCell (p := ⟨g, i * 6 + 1, none⟩) rfl _).setCell (p := ⟨g, i * 6 + 2, none⟩) rfl _).setCell (p := ⟨g, i * 6 + 3, none⟩) rfl _).setCell (p := ⟨g, i * 6 + 4, none⟩) rfl _).setCell (p := ⟨g, i * 6 + 5, none⟩) rfl _
theorem DelR.src {g cap : Nat} {id : Int} {l : List Stp} {W : World} {i j : Nat} {wr : World} {cur : List Value} (h : DelR g cap id l W i j wr cur) (hj : j < l.length) {k : Nat} (hk : k < 6) : wr.cell? ⟨g, j * 6 + k, none⟩ = (l[j]).cells[k]? := by
  rw [h.blk.cell, h.high _ (by omega) (by omega), stpsC_get l j k hj hk]
theorem DelR.dst {g cap : Nat} {id : Int} {l : List Stp} {W : World} {i j : Nat} {wr : World} {cur : List Value} (h : DelR g cap id l W i j wr cur) (hi : i < cap) {k : Nat} (hk : k < 6) : ∃ u, wr.cell? ⟨g, i * 6 + k, none⟩ = some u := by
  have hl := h.len
  rw [h.blk.cell]
  exact ⟨_, List.getElem?_eq_getElem (by omega)⟩
attribute [local go_sem ↓] run_cut_h run_cut_l
set_option maxHeartbeats 8000000 in
set_option maxRecDepth 100000 in
theorem delfunc_any {k : FuncId} (hE : Ent k) (hA : AskC k) {N : Nat} {W : World} {v : Value} {l : List Stp} (h : W.ownsRow N 75 6 v l.length (stpsC l)) (hl : l.length ≤ 1000000) {id : Int} {b : Nat} (hc : W.cell? ⟨b, 0, none⟩ = some (.int .i64 id)) (hb : b < W.heap.size) (hbv : v.ownBlock ≠ some b) :
    Calls Tryz.prog 21 #[v, .func (.func k) #[] #[.pointer (some ⟨b, 0, none⟩)]] W fun e w' => ∃ v', e = .returned v' ∧ w'.ownsRow N 75 6 v' (delS id l).length (stpsC (delS id l)) ∧ v'.ownBlock = v.ownBlock ∧ Only (fun k => v.ownBlock = some k) W w' := by
  have hix := Lib.hid (index_any hE hA h hl hc hb)
  unfold Ent at hE
  cases hk : l.findIdx? (fun x => x.id == id) with
  | none =>
    have e1 : findP id l = -1 := by unfold findP; rw [hk]
    have e2 : delS id l = l := by
      unfold delS
      rw [List.filter_eq_self]
      intro x hx
      have := List.findIdx?_eq_none_iff.1 hk x hx
      rw [this]; rfl
    rw [e1] at hix
    rw [e2]
    have hr := Lib.hid (fun w' (hw : Below W.heap.size W w') => (⟨ownsRow_below h hw, rfl, Only.of_below hw⟩ : w'.ownsRow N 75 6 v l.length (stpsC l) ∧ v.ownBlock = v.ownBlock ∧ Only (fun k => v.ownBlock = some k) W w'))
    clear h hk e1 e2 hA hc hb hbv
    go_enter Tryz.func21, Tryz.ntmps21
    go_wp2_with (go_at_call 28; refine hix.out.mono ?_; rintro e w2 ⟨rfl, hb2⟩)
    go_ret
    exact ⟨_, rfl, (hr.out _ hb2).1, rfl, (hr.out _ hb2).2.2⟩
  | some k0 =>
    obtain ⟨e1, hkl⟩ := findP_at hk
    obtain ⟨_, hkt, hkn⟩ := List.findIdx?_eq_some_iff_getElem.1 hk
    rw [e1] at hix
    rcases h.2 with ⟨h1, h2⟩ | ⟨g, cap, cur, rfl, hN, hh, hcap, hmx, hsz, htk⟩
    · omega
    have hst : DelR g cap id l W k0 (k0 + 1) W cur.toList := by
      refine ⟨by show W.heap[g]? = _; rw [hh], by simpa using hsz, ?_, ?_, fun t h1 h2 => ?_, Only.refl _ W⟩
      · rw [delS_snoc hkl, if_pos hkt, List.append_nil, delS_same (Nat.le_of_lt hkl) (fun j hj hj2 => by have := hkn j hj2; simpa using this)]
        have hc2 := congrArg (List.take (k0 * 6)) htk
        rw [List.take_take, Nat.min_eq_left (by omega)] at hc2
        rw [hc2]
        conv => lhs; rw [← List.take_append_drop k0 l, stpsC_app, List.take_left' (by rw [stpsC_len]; simp; omega)]
      · rw [delS_snoc hkl, if_pos hkt, List.append_nil, delS_same (Nat.le_of_lt hkl) (fun j hj hj2 => by have := hkn j hj2; simpa using this)]; simp; omega
      · rw [← htk, List.getElem?_take, if_pos h2]
    have hg : g < W.heap.size := (Array.getElem?_eq_some_iff.1 hh).1
    have hgb : b ≠ g := fun e => hbv (by rw [e]; rfl)
    have hcl := Lib.hid (fun (x : Stp) wr (hw : Only (fun k => k = g) W wr) => hA x id b wr ((World.cell?_of_block (hw.block b hb hgb)).trans hc) (Nat.lt_of_lt_of_le hb hw.size))
    replace hst := Lib.hid hst
    clear hA hc h hh hsz htk hk e1 hkt hkn hbv
    go_enter Tryz.func21, Tryz.ntmps21
    have q0 : ((k0 : Int) == -1) = false := by simp
    have hwk : IntKind.i64.wrap ((k0 : Int) + 1) = (k0 : Int) + 1 := IntWalk.i64_in _ (by omega)
    go_wp2_with (go_at_call 28; refine hix.out.mono ?_; rintro e w2 ⟨rfl, hb2⟩)
    have hst2 := Lib.hid (hst.out.below hb2)
    clear hst hb2 hix
    go_loopg [5, 6] (l.length - (k0 + 1)) (fun gh vi vj wr => ∃ i j : Nat, gh = l.length - j ∧ vi = .int .i64 (i : Int) ∧ vj = .int .i64 (j : Int) ∧ i < j ∧ j ≤ l.length ∧ ∃ cr, Hid (DelR g cap id l W i j wr cr))
    case atStart => exact ⟨k0, k0 + 1, rfl, rfl, by first | rfl | go_num, by omega, by omega, _, hst2⟩
    case round =>
      obtain ⟨i, j, rfl, rfl, rfl, hij, hj, cr, hD⟩ := hrel
      by_cases hlt : j < l.length
      · have z0 : (0 : Int) ≤ (j : Int) := by omega
        have z1 : (j : Int) < (l.length : Int) := by omega
        have y0 : (0 : Int) ≤ (i : Int) := by omega
        have y1 : (i : Int) < (l.length : Int) := by omega
        have c0 : wr.cell? ⟨g, j * 6, none⟩ = some (.int .i64 (l[j]).id) := hD.out.src hlt (k := 0) (by omega)
        have c1 : wr.cell? ⟨g, j * 6 + 1, none⟩ = some (.int .i64 (l[j]).kind) := hD.out.src hlt (k := 1) (by omega)
        have c2 : wr.cell? ⟨g, j * 6 + 2, none⟩ = some (.int .i64 (l[j]).n) := hD.out.src hlt (k := 2) (by omega)
        have c3 : wr.cell? ⟨g, j * 6 + 3, none⟩ = some (strV (l[j]).cond) := hD.out.src hlt (k := 3) (by omega)
        have c4 : wr.cell? ⟨g, j * 6 + 4, none⟩ = some (.bool (l[j]).off) := hD.out.src hlt (k := 4) (by omega)
        have c5 : wr.cell? ⟨g, j * 6 + 5, none⟩ = some (.pointer (l[j]).ptr) := hD.out.src hlt (k := 5) (by omega)
        have hgl := hD.out.blk.lt
        have hBx := Blk.new wr 75 (l[j]).cells
        have hal : Below wr.heap.size wr (wr.alloc (.cells (l[j]).cells.toArray 75)) := bl_alloc (Below.refl _ _) _
        have hcx := Lib.hid (hcl.out l[j] _ ((hD.out.below hal).only))
        have hnx := Lib.hid (fun w4 (hb4 : Below (wr.alloc (.cells (l[j]).cells.toArray 75)).heap.size (wr.alloc (.cells (l[j]).cells.toArray 75)) w4) => (⟨(hD.out.below hal).below hb4, fun k => (hBx.below hb4).cell k⟩ : DelR g cap id l W i j w4 cr ∧ ∀ k, w4.cell? ⟨wr.heap.size, k, none⟩ = (l[j]).cells[k]?))
        unfold Stp.cells at hcx hnx
        have hgn := Lib.hid (fun w4 (h : DelR g cap id l W i j w4 cr) => h.gone hlt)
        have hsy := Lib.hid (fun w4 (h : DelR g cap id l W i j w4 cr) => h.stays hij hlt hcap)
        have hwi : IntKind.i64.wrap ((i : Int) + 1) = (i : Int) + 1 := IntWalk.i64_in _ (by omega)
        have hwj : IntKind.i64.wrap ((j : Int) + 1) = (j : Int) + 1 := IntWalk.i64_in _ (by omega)
        have hds := Lib.hid (fun w4 (h : DelR g cap id l W i j w4 cr) => (⟨h.dst (by omega) (k := 0) (by omega), h.dst (by omega) (k := 1) (by omega), h.dst (by omega) (k := 2) (by omega), h.dst (by omega) (k := 3) (by omega), h.dst (by omega) (k := 4) (by omega), h.dst (by omega) (k := 5) (by omega), h.blk.free _, h.blk.free _, h.blk.free _, h.blk.free _, h.blk.free _, h.blk.free _, h.blk.lt⟩ :
          (∃ u, w4.cell? ⟨g, i * 6, none⟩ = some u) ∧ (∃ u, w4.cell? ⟨g, i * 6 + 1, none⟩ = some u) ∧ (∃ u, w4.cell? ⟨g, i * 6 + 2, none⟩ = some u) ∧ (∃ u, w4.cell? ⟨g, i * 6 + 3, none⟩ = some u) ∧ (∃ u, w4.cell? ⟨g, i * 6 + 4, none⟩ = some u) ∧ (∃ u, w4.cell? ⟨g, i * 6 + 5, none⟩ = some u) ∧
          w4.frozen? ⟨g, i * 6, none⟩ = false ∧ w4.frozen? ⟨g, i * 6 + 1, none⟩ = false ∧ w4.frozen? ⟨g, i * 6 + 2, none⟩ = false ∧ w4.frozen? ⟨g, i * 6 + 3, none⟩ = false ∧ w4.frozen? ⟨g, i * 6 + 4, none⟩ = false ∧ w4.frozen? ⟨g, i * 6 + 5, none⟩ = false ∧ g < w4.heap.size))
        clear hBx hal hcl hD
        obtain ⟨x, hx⟩ : ∃ x, l[j] = x := ⟨_, rfl⟩
        rw [hx] at c0 c1 c2 c3 c4 c5 hcx hnx hgn hsy
        replace hx := Lib.hid hx
        obtain ⟨B, hB⟩ : ∃ B, (x.id == id) = B := ⟨_, rfl⟩
        rw [hB] at hcx hgn hsy
        replace hB := Lib.hid hB
        cases B
        · go_wp2_with (first | ((with_reducible refine hcx.out.mono ?_); rintro e w4 ⟨rfl, hb4⟩; obtain ⟨hD4, hc4⟩ := hnx.out _ hb4; have d0 := hc4 0; have d1 := hc4 1; have d2 := hc4 2; have d3 := hc4 3; have d4 := hc4 4; have d5 := hc4 5; clear hc4; simp only [List.getElem?_cons_succ, List.getElem?_cons_zero] at d0 d1 d2 d3 d4 d5; obtain ⟨⟨u0, e0⟩, ⟨u1, e1⟩, ⟨u2, e2⟩, ⟨u3, e3⟩, ⟨u4, e4⟩, ⟨u5, e5⟩, f0, f1, f2, f3, f4, f5, g4⟩ := hds.out _ hD4; replace hD4 := Lib.hid hD4))
          go_roundg (l.length - (j + 1))
          case measure => omega
          case rel => exact ⟨i + 1, j + 1, rfl, by go_num, by go_num, by omega, by omega, _, Lib.hid (hsy.out _ hD4.out trivial)⟩
        · go_wp2_with (first | ((with_reducible refine hcx.out.mono ?_); rintro e w4 ⟨rfl, hb4⟩; obtain ⟨hD4, hc4⟩ := hnx.out _ hb4; replace hD4 := Lib.hid hD4; clear hc4))
          go_roundg (l.length - (j + 1))
          case measure => omega
          case rel => exact ⟨i, j + 1, rfl, rfl, by go_num, by omega, by omega, cr, Lib.hid (hgn.out _ hD4.out trivial)⟩
      · obtain rfl : j = l.length := by omega
        have z0 : (0 : Int) ≤ (i : Int) := by omega
        have z1 : (i : Int) ≤ (l.length : Int) := by omega
        have z2 : (i : Int) ≤ (cap : Int) := by omega
        have hct : cutA (some ⟨g, 0, none⟩) i cap 6 = some ⟨g, i * 6, none⟩ := by unfold cutA; rw [if_neg (by omega)]; simp [Addr.add]; omega
        have hlen := hD.out.len
        have hcc : ∀ t, t < (l.length - i) * 6 → (wr.cell? ⟨g, i * 6 + t, none⟩).isSome = true := fun t ht => by rw [hD.out.blk.cell, List.getElem?_eq_getElem (by omega)]; rfl
        have hff : ∀ t, t < (l.length - i) * 6 → wr.frozen? ⟨g, i * 6 + t, none⟩ = false := fun t ht => hD.out.blk.free _
        replace hcc := Lib.hid hcc
        replace hff := Lib.hid hff
        have hfin := Lib.hid (fun vs => (by
          obtain ⟨c', h1, h2, h3⟩ := Blk.setCells vs (i * 6) hD.out.blk
          have hlow := hD.out.low
          have hnum := hD.out.num
          rw [List.take_length] at hlow hnum
          refine ⟨⟨by rw [stpsC_len], .inr ⟨g, cap, c'.toArray, by rw [hnum], hN, h1, by omega, hmx, by simp; omega, ?_⟩⟩, hD.out.only.trans (only_setCells vs (i * 6) wr)⟩
          rw [hnum]
          simp only
          rw [h3, hlow] :
          (wr.setCells g (i * 6) vs).ownsRow N 75 6 (.slice (some ⟨g, 0, none⟩) i cap) (delS id l).length (stpsC (delS id l)) ∧ Only (fun k => k = g) W (wr.setCells g (i * 6) vs)))
        go_wp2_with (refine wpList_clear_any (by rfl) (.tmp 38) 69 (by rfl) 75 _ Tryz.underlying69 (zeroStp _) zeroStp_one g (i * 6) (l.length - i) (cap - i) 6 (by rfl) (by omega) (by rw [← hct]; rfl) hcc.out hff.out ?_; intro vs hvs; replace hvs := Lib.hid hvs)
        go_ret
        exact ⟨_, rfl, (hfin.out vs).1, rfl, (hfin.out vs).2.mono (fun k hk => by rw [hk]; rfl)⟩
end Go.Proofs.YtcjcflmnghhbaaaGreat
