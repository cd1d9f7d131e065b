/-
  Contracts of the reference's ring of layer 24: High, At, Push, Cut.
  Conditions: as each theorem states them.
-/
import Derived.Test.YtfbimghnimepjaaRingK
import Derived.Test.YtfbimghnimepjaaIter3
import Derived.OwnWalk
import Derived.Laws.OwnMore
namespace Go.Proofs.Ytfbimghnimepjaa
open Go.RowKit
set_option linter.unusedVariables false
theorem run_append_nil0 {P : Program} {w : World} (base : Nat) (t ty e : TypeId) (i : TypeInfo) (size : Nat) (ht : P.underlying t = some (.slice e)) (hi : P.info? e = some i)
    (v : Value) (n c : Nat) (xs : List Value) (hown : w.ownsRow base e size v n xs) :
    (Builtin.append_ #[t, t] ty #[v, .slice none 0 c]).run P w = .ok v w := by
  rcases hown.2 with ⟨rfl, rfl⟩ | ⟨g, cap, cur, rfl, _, _, hnc, _⟩
  · simp [Builtin.append_, run_underlying ht, sizeOf, typeInfo, hi, Builtin.lenOf, Builtin.firstCells]
  · simp [Builtin.append_, run_underlying ht, sizeOf, typeInfo, hi, Builtin.lenOf, Builtin.firstCells, hnc, storeCells]
/-- 'append(buf, xs...)', buf the call's own, xs whatever slice of one-cell values -/
theorem wpList_append_vals {P : Program} {w : World} {ops : Array Oper} {rest : List Oper} {o : Oper} {a : Act} {Q : Exit → Act → World → Prop} (hgd : o.guard = none) (s x : Operand) (t : TypeId)
    (ho : o.op = .call { callee := .builtin .append, args := #[s, x], argTypes := #[t, t] })
    (base : Nat) (e : TypeId) (i : TypeInfo) (z : Value) (bytes : Nat) (ht : P.underlying t = some (.slice e)) (hi : P.info? e = some i) (hz : i.zero = some z) (hsize : i.size = 1) (hby : i.bytes = bytes) (hzs : z.cells.size = 1)
    (v : Value) (n : Nat) (ys : List Value) (hs : a.eval s = v) (hown : w.ownsRow base e 1 v n ys)
    (ba : Option Addr) (m c : Nat) (vs : List Value) (hm : vs.length = m) (hx : a.eval x = .slice ba m c) (hsrc : (ba = none ∧ vs = []) ∨ ∃ ad, ba = some ad ∧ ∀ j u, vs[j]? = some u → w.cell? (ad.add j) = some u) (hone : ∀ u ∈ vs, u.oneCell' = true)
    (h63 : n + m ≤ maxLen) (hbound : (n + m) * bytes ≤ 140737488355328) (hbase : base ≤ w.heap.size)
    (h : ∀ v' w', w'.ownsRow base e 1 v' (n + m) (ys ++ vs) → w.grownBy w' v.ownBlock → wpList P ops Q rest (a.put o.dst v') w') : wpList P ops Q (o :: rest) a w := by
  subst hm
  rcases hsrc with ⟨rfl, rfl⟩ | ⟨ad, rfl, hc⟩
  · refine wpList_plain hgd fun K hK => ?_
    have hrun := run_append_nil0 (P := P) (w := w) base t o.type e i 1 ht hi v n c ys hown
    unfold Oper.wp
    simp only [List.length_nil] at hx
    simp [execOp, ho, resolve, invoke, builtin, hs, hx, hrun, Result.andThen]
    exact hK _ _ (h v w (by simpa using hown) (World.grownBy.refl _ _))
  · exact wpList_append_own w hgd s x t ho base e i z 1 bytes ht hi hz hsize hby hzs (by omega) v n ys hs hown ad vs.length c vs hx (by simp) hc hone h63 hbound hbase (fun v' w' h1 h2 _ => h v' w' h1 h2)

/-- the reference's ring at block px; its row lies elsewhere, and in no block of Av -/
def RefAt (Av : Nat → Prop) (w : World) (px : Nat) (most low : Nat) (xs : List Int) : Prop :=
  ∃ a c, Blk w px 63 [.int .i64 most, .int .i64 low, .slice a xs.length c] ∧ xs.length ≤ c ∧ c ≤ maxLen ∧
    ((a = none ∧ c = 0) ∨ ∃ b o, a = some ⟨b, o, none⟩ ∧ b ≠ px ∧ ¬ Av b ∧ b < w.heap.size ∧ ∀ j u, xs[j]? = some u → w.cell? ⟨b, o + j, none⟩ = some (.int .i64 u))
theorem RefAt.nil {Av : Nat → Prop} {w : World} {px most low : Nat} (h : Blk w px 63 [.int .i64 most, .int .i64 low, .slice none 0 0]) : RefAt Av w px most low [] := ⟨none, 0, h, by simp, by simp [maxLen], .inl ⟨rfl, rfl⟩⟩
theorem RefAt.only {Av S : Nat → Prop} {w w' : World} {px most low : Nat} {xs : List Int} (h : RefAt Av w px most low xs) (ho : Only S w w') (hpx : ¬ S px) (hS : ∀ k, S k → Av k) : RefAt Av w' px most low xs := by
  obtain ⟨a, c, hb, h1, h2, h3⟩ := h
  refine ⟨a, c, hb.only ho hpx, h1, h2, ?_⟩
  rcases h3 with h3 | ⟨b, o, ha, hne, hav, hlt, hc⟩
  · exact .inl h3
  · refine .inr ⟨b, o, ha, hne, hav, Nat.lt_of_lt_of_le hlt ho.size, fun j u hj => ?_⟩
    have := hc j u hj
    simp only [World.cell?] at this ⊢
    rw [ho.block b hlt (fun hs => hav (hS b hs))]
    exact this
theorem RefAt.below {Av : Nat → Prop} {w w' : World} {px most low : Nat} {xs : List Int} (h : RefAt Av w px most low xs) (hb : Below w.heap.size w w') : RefAt Av w' px most low xs :=
  h.only (S := fun _ => False) (Only.mono (Only.of_below (S := fun _ => False) hb) (fun _ x => x)) (fun x => x) (fun _ x => x.elim)
theorem refhigh_raw (w : World) (px : Nat) (low : Int) (a : Option Addr) (n c : Nat) (hl : 0 ≤ low ∧ low ≤ 1000000000000) (hn : n ≤ 1000000) (c1 : w.cell? ⟨px, 1, none⟩ = some (.int .i64 low)) (c2 : w.cell? ⟨px, 2, none⟩ = some (.slice a n c)) :
    Calls Try.prog 60 #[.pointer (some ⟨px, 0, none⟩)] w fun e w' => e = .returned (.int .i64 (low + n)) ∧ ∃ m, w' = w.drewN m := by
  go_enter Try.func60, Try.ntmps60
  go_wp2_with (go_quiet (fail))
  all_goals go_ret
  all_goals exact ⟨rfl, _, rfl⟩
theorem RefAt.cells {Av : Nat → Prop} {w : World} {px most low : Nat} {xs : List Int} (h : RefAt Av w px most low xs) : ∃ a c, w.cell? ⟨px, 0, none⟩ = some (.int .i64 most) ∧ w.cell? ⟨px, 1, none⟩ = some (.int .i64 low) ∧ w.cell? ⟨px, 2, none⟩ = some (.slice a xs.length c) ∧ xs.length ≤ c := by
  obtain ⟨a, c, hb, h1, h2, h3⟩ := h
  exact ⟨a, c, hb.cell 0, hb.cell 1, hb.cell 2, h1⟩
theorem refhigh_any {Av : Nat → Prop} (w : World) (px most low : Nat) (xs : List Int) (h : RefAt Av w px most low xs) (hl : low ≤ 1000000000000) (hn : xs.length ≤ 1000000) :
    Calls Try.prog 60 #[.pointer (some ⟨px, 0, none⟩)] w fun e w' => e = .returned (.int .i64 ((low + xs.length : Nat) : Int)) ∧ ∃ m, w' = w.drewN m := by
  obtain ⟨a, c, c0, c1, c2, _⟩ := h.cells
  refine (refhigh_raw w px low a xs.length c (by omega) hn c1 c2).mono ?_
  rintro e w' ⟨rfl, hm⟩
  exact ⟨by simp, hm⟩
set_option maxHeartbeats 1000000 in
theorem refat_out {Av : Nat → Prop} (n : Int) (w : World) (px most low : Nat) (xs : List Int) (h : RefAt Av w px most low xs) (hl : low ≤ 1000000000000) (hn : xs.length ≤ 1000000) (ho : n < low ∨ ((low + xs.length : Nat) : Int) ≤ n) :
    Calls Try.prog 61 #[.pointer (some ⟨px, 0, none⟩), .int .i64 n] w fun e w' => e = .returned (.tuple #[.int .i64 0, .bool false]) ∧ ∃ m, w' = w.drewN m := by
  have hh := Lib.hid (refhigh_any w px most low xs h hl hn)
  obtain ⟨a, c, c0, c1, c2, _⟩ := h.cells
  clear h
  by_cases h0 : n < low
  · go_enter Try.func61, Try.ntmps61
    go_wp2_with fail
    all_goals go_ret2
    all_goals exact ⟨rfl, 0, rfl⟩
  · have h1 : ((low + xs.length : Nat) : Int) ≤ n := by omega
    have h2 : (low : Int) + xs.length ≤ n := by omega
    go_enter Try.func61, Try.ntmps61
    go_wp2_with (go_at_call 60; refine hh.out.mono ?_; rintro e w2 ⟨rfl, m, rfl⟩)
    all_goals go_ret2
    all_goals exact ⟨rfl, _, rfl⟩
set_option maxHeartbeats 2000000 in
theorem refat_in {Av : Nat → Prop} (k : Nat) (w : World) (px most low : Nat) (xs : List Int) (h : RefAt Av w px most low xs) (hl : low ≤ 1000000000000) (hn : xs.length ≤ 1000000) (hk : k < xs.length) :
    Calls Try.prog 61 #[.pointer (some ⟨px, 0, none⟩), .int .i64 ((low + k : Nat) : Int)] w fun e w' => e = .returned (.tuple #[.int .i64 xs[k], .bool true]) ∧ ∃ m, w' = w.drewN m := by
  have hh := Lib.hid (refhigh_any w px most low xs h hl hn)
  obtain ⟨a, c, hb, h1, h2, h3⟩ := h
  rcases h3 with ⟨rfl, rfl⟩ | ⟨b, o, rfl, hne, hav, hlt, hc⟩
  · omega
  · have c1 := hb.cell 1
    have c2 := hb.cell 2
    simp at c1 c2
    have cx := hc k xs[k] (by simp [hk])
    clear hc hb hne hav
    generalize xs[k] = z at *
    have hk' : ((low + k : Nat) : Int) < ((low + xs.length : Nat) : Int) := by omega
    go_enter Try.func61, Try.ntmps61
    go_wp2_with (first | (go_at_call 60; refine hh.out.mono ?_; rintro e w2 ⟨rfl, m, rfl⟩) | go_quiet (fail))
    all_goals go_ret2
    all_goals exact ⟨rfl, _, by rw [World.drewN_drewN]⟩
/-! ### Push -/
def pushM (most low : Nat) (xs : List Int) (x : Int) : Nat × List Int := if most < xs.length + 1 then (low + 1, (xs ++ [x]).tail) else (low, xs ++ [x])
def refRow (xs : List Int) : List Value := xs.map fun u => .int .i64 u
theorem refRow_src {Av : Nat → Prop} {w w' : World} {px most low : Nat} {xs : List Int} (hb : Below w.heap.size w w') (h : RefAt Av w px most low xs) : ∃ a c, w.cell? ⟨px, 2, none⟩ = some (.slice a (refRow xs).length c) ∧
    ((a = none ∧ refRow xs = []) ∨ ∃ ad, a = some ad ∧ ∀ j u, (refRow xs)[j]? = some u → w'.cell? (ad.add j) = some u) := by
  obtain ⟨a, c, hb0, h1, h2, h3⟩ := h
  refine ⟨a, c, by have := hb0.cell 2; simpa [refRow] using this, ?_⟩
  rcases h3 with ⟨rfl, rfl⟩ | ⟨b, o, rfl, hne, hav, hlt, hc⟩
  · have : xs = [] := List.length_eq_zero_iff.1 (by omega)
    exact .inl ⟨rfl, by simp [this, refRow]⟩
  · refine .inr ⟨_, rfl, fun j u hj => ?_⟩
    have e : (⟨b, o, none⟩ : Addr).add j = ⟨b, o + j, none⟩ := by simp [Addr.add]
    simp [refRow] at hj
    obtain ⟨y, hy, rfl⟩ := hj
    rw [e, hb.cell (p := ⟨b, o + j, none⟩) hlt]
    exact hc j y hy
theorem own_only {w w' : World} {base e k : Nat} {v : Value} {xs : List Value} {S : Nat → Prop} (h : w.ownsRow base e 1 v k xs) (ho : Only S w w') (hS : ∀ g, v.ownBlock = some g → ¬ S g) : w'.ownsRow base e 1 v k xs := by
  obtain ⟨hl, h⟩ := h
  rcases h with ⟨rfl, rfl⟩ | ⟨g, cap, cur, rfl, hg, hb, hk, hc, hs, ht⟩
  · exact ⟨hl, .inl ⟨rfl, rfl⟩⟩
  · exact ⟨hl, .inr ⟨g, cap, cur, rfl, hg, (ho.block g (Array.getElem?_eq_some_iff.1 hb).1 (hS g rfl)).trans hb, hk, hc, hs, ht⟩⟩
theorem own_facts {w : World} {base e k g cap : Nat} {xs : List Value} (h : w.ownsRow base e 1 (.slice (some ⟨g, 0, none⟩) k cap) k xs) : base ≤ g ∧ g < w.heap.size ∧ k ≤ cap ∧ cap ≤ maxLen ∧ xs.length = k ∧ ∀ j u, xs[j]? = some u → w.cell? ⟨g, j, none⟩ = some u := by
  have hl := h.1
  refine ⟨?_, ?_, ?_, ?_, by omega, fun j u hj => ?_⟩
  · exact (h.lt g rfl).1
  · exact (h.lt g rfl).2
  · rcases h.2 with ⟨h', _⟩ | ⟨g', cap', cur, h', _, _, h1, h2, _⟩
    · simp at h'
    · simp at h'; omega
  · rcases h.2 with ⟨h', _⟩ | ⟨g', cap', cur, h', _, _, h1, h2, _⟩
    · simp at h'
    · simp at h'; omega
  · have hj' := (List.getElem?_eq_some_iff.1 hj).1
    rw [h.cellAt j (by omega)]
    exact hj
set_option maxHeartbeats 4000000 in
set_option maxRecDepth 100000 in
theorem refpush_any {Av : Nat → Prop} (x : Int) (w : World) (px most low : Nat) (xs : List Int) (h : RefAt Av w px most low xs) (hAv : ∀ k, Av k → k < w.heap.size) (hl : low ≤ 100000000000) (hn : xs.length ≤ 10000) (hm : 1 ≤ most ∧ most ≤ 10000) :
    Calls Try.prog 29 #[.pointer (some ⟨px, 0, none⟩), .int .i64 x] w fun e w' => e = .returned (.int .i64 ((low + xs.length : Nat) : Int)) ∧ RefAt Av w' px most (pushM most low xs x).1 (pushM most low xs x).2 ∧ Only (fun k => k = px) w w' := by
  obtain ⟨i0, hi, hz0, hz1, hz2⟩ := info_parts infoint_
  obtain ⟨a, c, hc2, hsrc⟩ := refRow_src (bl_alloc (Below.refl w.heap.size w) (.cells #[] 3)) h
  have hblk : Blk w px 63 [.int .i64 most, .int .i64 low, .slice a (refRow xs).length c] := by
    obtain ⟨a', c', hb, _⟩ := h
    have e := (hb.cell 2).symm.trans hc2
    simp at e
    obtain ⟨rfl, _, rfl⟩ := e
    simpa [refRow] using hb
  have hlen : (refRow xs).length = xs.length := by simp [refRow]
  have hpx := hblk.lt
  have c0 := hblk.cell 0
  have c1 := hblk.cell 1
  have c2 := hblk.cell 2
  simp at c0 c1 c2
  have ho := World.ownsRow_lit (base := w.heap.size) (e := 3) (size := 1) w #[] 0 (Nat.le_refl _) (by decide) rfl
  replace ho := Lib.hid ho
  replace hsrc := Lib.hid hsrc
  replace hAv := Lib.hid hAv
  replace hblk := Lib.hid hblk
  have hone : ∀ u ∈ refRow xs, u.oneCell' = true := fun u hu => by simp [refRow] at hu; obtain ⟨y, _, rfl⟩ := hu; rfl
  replace hone := Lib.hid hone
  have z1 : 0 + xs.length ≤ maxLen := by unfold maxLen; omega
  have z2 : (0 + xs.length) * 8 ≤ 140737488355328 := by omega
  have z3 : 0 + xs.length + 1 ≤ maxLen := by unfold maxLen; omega
  have z4 : (0 + xs.length + 1) * 8 ≤ 140737488355328 := by omega
  rw [hlen] at c2
  replace hlen := Lib.hid hlen
  clear h hc2
  · go_enter Try.func29, Try.ntmps29
    go_wp2_with (first
      | (at_builtin; refine wpList_append_vals rfl (.tmp 6) (.tmp 10) 61 rfl w.heap.size 3 i0 (.int .i64 0) 8 Try.underlying61 hi hz0 hz1 hz2 rfl _ _ _ rfl ho.out a xs.length c (refRow xs) hlen.out rfl hsrc.out hone.out z1 z2 (by simp) ?_; intro v1 w1 hown1 hgrow1; have hb1 := (bl_alloc (Below.refl w.heap.size w) (.cells #[] 3)).grown hgrow1 (by simp) (fun j hj => (ho.out.lt j hj).1); replace hown1 := Lib.hid hown1)
      | (at_builtin; refine wpList_append_own _ rfl (.tmp 11) (.tmp 13) 61 rfl w.heap.size 3 i0 (.int .i64 0) 1 8 Try.underlying61 hi hz0 hz1 hz2 rfl (by decide) _ _ _ rfl (hown1.out.alloc _) ⟨w1.heap.size, 0, none⟩ 1 1 [.int .i64 x] rfl rfl (cell_one_new _ _ _) (by intro u hu; simp at hu; subst hu; rfl) z3 z4 (by have := hb1.size; simp; omega) ?_; intro v2 w2 hown2 hgrow2 _; obtain ⟨g2, cap2, rfl⟩ := ownsRow_succ hown2; have hb2 := (bl_alloc hb1 _).grown hgrow2 (by have := hb1.size; simp; omega) (fun j hj => (hown1.out.lt j hj).1); have hblk2 := hblk.out.below hb2; have d0 := hblk2.cell 0; have d1 := hblk2.cell 1; have d2 := hblk2.cell 2; have f2 := hblk2.free 2; simp at d0 d1 d2; replace hblk2 := Lib.hid hblk2; replace hown2 := Lib.hid hown2))
    have hX : ∃ V, V = Value.slice (some ⟨g2, 0, none⟩) (xs.length + 1) cap2 := ⟨_, rfl⟩
    obtain ⟨V, hV⟩ := hX
    have hblk3 := hblk2.out.set 2 V
    have ho3 := ((Only.of_below (S := fun k => k = px) hb2).setCell (p := ⟨px, 2, none⟩) rfl V)
    obtain ⟨q1, q2, q3, q4, q5, q6⟩ := own_facts hown2.out
    have hown3 := own_only (S := fun k => k = px) hown2.out ((Only.refl (fun k => k = px) w2).setCell (p := ⟨px, 2, none⟩) (show px = px from rfl) V) (fun g hg => by simp [Value.ownBlock] at hg; omega)
    rw [← hV]
    generalize w2.setCell ⟨px, 2, none⟩ V = w3 at *
    have e0 := hblk3.cell 0
    have e1 := hblk3.cell 1
    have e2 := hblk3.cell 2
    simp at e0 e1 e2
    rw [hV] at e2
    have f1 := hblk3.free 1
    have f2' := hblk3.free 2
    obtain ⟨q1, q2, q3, q4, q5, q6⟩ := own_facts hown3
    replace hblk3 := Lib.hid hblk3
    replace hown3 := Lib.hid hown3
    replace hV := Lib.hid hV
    replace q6 := Lib.hid q6
    have hpg : px ≠ g2 := by omega
    have hav : ¬ Av g2 := fun h => by have := hAv.out g2 h; omega
    have hrow : (0 : Int) ≤ 0 := by omega
    clear d0 d1 d2 f2 hsrc hone
    by_cases hgt : most < xs.length + 1
    · have hgt' : (most : Int) < (xs.length : Int) + 1 := by omega
      replace hgt := Lib.hid hgt
      go_quiet (fail)
      go_wp2_with fail
      have hb4 := ((hblk3.out.drewN nq).set 2 (.slice (some ⟨g2, 1, none⟩) xs.length (cap2 - 1))).set 1 (.int .i64 ((low : Int) + 1))
      have ho4 : Only (fun k => k = px) w3 (((w3.drewN nq).setCell ⟨px, 2, none⟩ (.slice (some ⟨g2, 1, none⟩) xs.length (cap2 - 1))).setCell ⟨px, 1, none⟩ (.int .i64 ((low : Int) + 1))) :=
        (((Only.refl (fun k => k = px) w3).drewN nq).setCell (p := ⟨px, 2, none⟩) (show px = px from rfl) _).setCell (p := ⟨px, 1, none⟩) (show px = px from rfl) _
      generalize ((w3.drewN nq).setCell ⟨px, 2, none⟩ (.slice (some ⟨g2, 1, none⟩) xs.length (cap2 - 1))).setCell ⟨px, 1, none⟩ (.int .i64 ((low : Int) + 1)) = w4 at *
      have g1 := hb4.cell 1
      have g2' := hb4.cell 2
      simp at g1 g2'
      refine (refhigh_raw w4 px ((low : Int) + 1) (some ⟨g2, 1, none⟩) xs.length (cap2 - 1) (by omega) (by omega) g1 g2').mono ?_
      rintro e w5 ⟨rfl, m, rfl⟩
      replace hb4 := Lib.hid hb4
      go_wp2_with fail
      all_goals go_ret
      all_goals
        have ep : pushM most low xs x = (low + 1, (xs ++ [x]).tail) := by unfold pushM; rw [if_pos hgt.out]
        have el : (xs ++ [x]).tail.length = xs.length := by simp
        rw [ep]
        refine ⟨ret_int (by omega), RefAt.below (w := w4) ⟨some ⟨g2, 1, none⟩, cap2 - 1, ?_, by rw [el]; omega, by omega, .inr ⟨g2, 1, rfl, hpg.symm, hav, Nat.lt_of_lt_of_le q2 ho4.size, fun j u hj => ?_⟩⟩ (bl_drewN (Below.refl _ _) _), (ho3.trans ho4).drewN _⟩
        · have := hb4.out
          rw [el]
          simpa using this
        · rw [only_cell ho4 q2 hpg.symm]
          refine q6.out (1 + j) _ ?_
          have e3 : ([] ++ refRow xs ++ [Value.int .i64 x]) = refRow (xs ++ [x]) := by simp [refRow]
          rw [e3]
          rw [List.getElem?_tail] at hj
          rw [Nat.add_comm 1 j]
          simp only [refRow, List.getElem?_map, hj, Option.map_some]
    · have hgt' : ¬ (most : Int) < (xs.length : Int) + 1 := by omega
      have q0 : decide ((most : Int) < (xs.length : Int) + 1) = false := by simpa using hgt'
      replace hgt := Lib.hid hgt
      replace hgt' := Lib.hid hgt'
      go_quiet (fail)
      go_wp2_with fail
      refine (refhigh_raw (w3.drewN nq) px low (some ⟨g2, 0, none⟩) (xs.length + 1) cap2 (by omega) (by omega) (by simpa using e1) (by simpa using e2)).mono ?_
      rintro e w5 ⟨rfl, m, rfl⟩
      go_wp2_with fail
      all_goals go_ret
      all_goals
        have ep : pushM most low xs x = (low, xs ++ [x]) := by unfold pushM; rw [if_neg hgt.out]
        rw [ep]
        refine ⟨ret_int (by omega), RefAt.below (w := w3) ⟨some ⟨g2, 0, none⟩, cap2, ?_, by simpa using q3, q4, .inr ⟨g2, 0, rfl, hpg.symm, hav, q2, fun j u hj => ?_⟩⟩ (bl_drewN (Below.refl _ _) _), ho3.drewN _⟩
        · have := hblk3.out
          rw [hV.out] at this
          simpa using this
        · rw [Nat.zero_add]
          exact q6.out j _ (by
            have : ([] ++ refRow xs ++ [Value.int .i64 x]) = refRow (xs ++ [x]) := by simp [refRow]
            rw [this]
            simp only [refRow, List.getElem?_map, hj, Option.map_some])
end Go.Proofs.Ytfbimghnimepjaa
