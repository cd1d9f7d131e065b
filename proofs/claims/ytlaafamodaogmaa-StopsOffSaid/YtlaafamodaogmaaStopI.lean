/-
  Stops.Hits; of chapter 28.
  Conditions: as each theorem states them.
-/
import Derived.Test.YtlaafamodaogmaaStopH
namespace Go.Proofs.Ytlaafamodaogmaa
open Go.RowKit
set_option linter.unusedVariables false
set_option linter.unusedSimpArgs false
attribute [local go_sem ↓] load_st
open CM (Sv)
/-- the numbers of those that stop -/
def hitsS (l : List Stp) (was now : Sv) : List Int := (l.filter fun x => hitS x was now).map (·.id)
theorem hitsS_snoc {l : List Stp} {was now : Sv} {i : Nat} (h : i < l.length) : hitsS (l.take (i + 1)) was now = hitsS (l.take i) was now ++ if hitS l[i] was now = true then [l[i].id] else [] := by
  unfold hitsS
  rw [List.take_succ_eq_append_getElem h, List.filter_append, List.map_append]
  cases hb : hitS l[i] was now <;> simp [hb]
theorem hitsS_len (l : List Stp) (was now : Sv) : (hitsS l was now).length ≤ l.length := by
  unfold hitsS; rw [List.length_map]; exact List.length_filter_le _ _
set_option maxHeartbeats 4000000 in
set_option maxRecDepth 100000 in
theorem hits_nil (s1 s2 : StC) (W : World) : Calls Try.prog 27 #[.pointer none, .agg s1.cells.toArray, .agg s2.cells.toArray] W fun e w' => e = .returned (.slice none 0 0) ∧ Below W.heap.size W w' := by
  generalize s1.cells.toArray = C1
  generalize s2.cells.toArray = C2
  go_enter Try.func27, Try.ntmps27
  go_wp2_with fail
  go_ret
  exact ⟨rfl, bl_alloc (bl_alloc (Below.refl _ _) _) _⟩
theorem ownsRow_base {w : World} {b0 b1 : Nat} {e : TypeId} {size : Nat} {v : Value} {n : Nat} {xs : List Value} (h : w.ownsRow b1 e size v n xs) (hb : b0 ≤ b1) : w.ownsRow b0 e size v n xs := by
  refine ⟨h.1, ?_⟩
  rcases h.2 with h | ⟨g, cap, cur, h1, h2, h3⟩
  · exact .inl h
  · exact .inr ⟨g, cap, cur, h1, Nat.le_trans hb h2, h3⟩
theorem infoI : (Try.prog.info? 3).map (fun i => (i.zero, i.size, i.bytes)) = some (some (.int .i64 0), 1, 8) := by kernel_rfl
theorem one_int (n : Int) : ∀ u ∈ [Value.int .i64 n], u.oneCell' = true := by
  intro u hu; simp only [List.mem_cons, List.not_mem_nil, or_false] at hu; subst hu; rfl
set_option maxHeartbeats 4000000 in
set_option maxRecDepth 100000 in
theorem hits_any {N : Nat} {W : World} {p : Nat} {l : List Stp} {last : Int} {s1 s2 : StC} {v1 v2 : Sv} (h : StopsAt N W p l last) (hl : l.length ≤ 1000000) (h1 : StSv W s1 v1) (h2 : StSv W s2 v2) (hm : MxAt W) :
    Calls Try.prog 27 #[.pointer (some ⟨p, 0, none⟩), .agg s1.cells.toArray, .agg s2.cells.toArray] W fun e w' => ∃ v, e = .returned v ∧ w'.ownsRow W.heap.size 3 1 v (hitsS l v1 v2).length ((hitsS l v1 v2).map (Value.int .i64)) ∧ Below W.heap.size W w' := by
  obtain ⟨i0, hi0, hz0, hz1, hz2⟩ := info_parts infoI
  obtain ⟨v, hR⟩ := h
  have hB1 : Blk ((W.alloc (.cells s1.cells.toArray 34)).alloc (.cells s2.cells.toArray 34)) W.heap.size 34 s1.cells := (Blk.new W _ _).alloc _
  have hB2 : Blk ((W.alloc (.cells s1.cells.toArray 34)).alloc (.cells s2.cells.toArray 34)) (W.heap.size + 1) 34 s2.cells := by
    have := (Blk.new (W.alloc (.cells s1.cells.toArray 34)) 34 s2.cells)
    rw [size_alloc] at this; exact this
  have hb0 : Below W.heap.size W ((W.alloc (.cells s1.cells.toArray 34)).alloc (.cells s2.cells.toArray 34)) := bl_alloc (bl_alloc (Below.refl _ _) _) _
  obtain ⟨C1, hC1⟩ : ∃ C, s1.cells.toArray = C := ⟨_, rfl⟩
  obtain ⟨C2, hC2⟩ : ∃ C, s2.cells.toArray = C := ⟨_, rfl⟩
  obtain ⟨W2, hW2⟩ : ∃ W2, (W.alloc (.cells s1.cells.toArray 34)).alloc (.cells s2.cells.toArray 34) = W2 := ⟨_, rfl⟩
  rw [hW2] at hB1 hB2 hb0
  have hLd := Lib.hid (fun w' (hw : Below W2.heap.size W2 w') => (⟨hC1 ▸ stLoad_is s1 (hB1.below hw), hC2 ▸ stLoad_is s2 (hB2.below hw)⟩ : (stLoad ⟨W.heap.size, 0, none⟩).run Try.prog w' = .ok (.agg C1) w' ∧ (stLoad ⟨W.heap.size + 1, 0, none⟩).run Try.prog w' = .ok (.agg C2) w'))
  have hcl := Lib.hid (fun x (hx : x ∈ l) w' (hw : Below W2.heap.size W2 w') => (by
    have hw0 := bl_trans hb0 hw
    have := hits_one (x := x) (h1.below hw0) (h2.below hw0) (hm.below hw0) (fun cb lo hi phi e => ((hR.conds x hx).below hw0).is e)
    rw [hC1, hC2] at this
    exact this : Calls Try.prog 47 #[.agg x.cells.toArray, .agg C1, .agg C2] w' fun e w2 => e = .returned (.bool (hitS x v1 v2)) ∧ Below w'.heap.size w' w2))
  rw [hC1, hC2] at hW2
  have hl1 := hB1.lt
  have hl2 := hB2.lt
  have k0 : W2.cell? ⟨p, 0, none⟩ = some v := (hb0.cell (p := ⟨p, 0, none⟩) hR.blk.lt).trans (hR.blk.cell 0)
  have hp : p < W2.heap.size := Nat.lt_of_lt_of_le hR.blk.lt hb0.size
  replace hW2 := Lib.hid hW2
  rw [hC1, hC2]
  have hrow := row_elem hR.row
  clear hR hB1 hB2 h1 h2 hm hC1 hC2
  rcases hrow with ⟨rfl, rfl⟩ | ⟨g, cap, rfl, hN, hg, hcap, hmx, hel⟩
  · go_enter Try.func27, Try.ntmps27
    go_upto_region 1 with fail
    rw [hW2.out]
    go_wp2_with fail
    go_loopg [7, 17] 0 (fun gh o v wr => o = .slice none 0 0 ∧ v = .int .i64 0 ∧ W2 = wr)
    case atStart => exact ⟨rfl, rfl, rfl⟩
    case round =>
      obtain ⟨rfl, rfl, rfl⟩ := hrel
      go_wp2_with fail
      go_ret
      exact ⟨_, rfl, World.ownsRow_nil _ _ _ _, hb0⟩
  · have hg2 : g < W2.heap.size := Nat.lt_of_lt_of_le hg hb0.size
    have hel2 := Lib.hid (fun i (hi : i < l.length) wr (hb : Below W2.heap.size W2 wr) j u (hu : (l[i]).cells[j]? = some u) => (hb.cell (p := ⟨g, i * 6 + j, none⟩) hg2).trans ((hb0.cell (p := ⟨g, i * 6 + j, none⟩) hg).trans ((hel i hi).1 j u hu)))
    replace hb0 := Lib.hid hb0
    clear hel
    go_enter Try.func27, Try.ntmps27
    go_upto_region 1 with fail
    rw [hW2.out]
    go_wp2_with fail
    go_loopg [7, 17] l.length (fun gh o v wr => ∃ i : Nat, gh = l.length - i ∧ v = .int .i64 (i : Int) ∧ i ≤ l.length ∧ Hid (wr.ownsRow W2.heap.size 3 1 o (hitsS (l.take i) v1 v2).length ((hitsS (l.take i) v1 v2).map (Value.int .i64))) ∧ Hid (Below W2.heap.size W2 wr))
    case atStart => exact ⟨0, by omega, rfl, Nat.zero_le _, Lib.hid (World.ownsRow_nil _ _ _ _), Lib.hid (Below.refl _ _)⟩
    case round =>
      obtain ⟨i, rfl, rfl, hi, ho, hbr⟩ := hrel
      by_cases hlt : i < l.length
      · have k0 := hel2.out i hlt wr hbr.out
        have c0 : wr.cell? ⟨g, i * 6, none⟩ = some (.int .i64 (l[i]).id) := by have := k0 0 _ rfl; rwa [Nat.add_zero] at this
        have c1 := k0 1 _ rfl
        have c2 := k0 2 _ rfl
        have c3 := k0 3 _ rfl
        have c4 := k0 4 _ rfl
        have c5 := k0 5 _ rfl
        have hg3 : g < wr.heap.size := Nat.lt_of_lt_of_le hg2 hbr.out.size
        have hsn := hitsS_snoc (was := v1) (now := v2) hlt
        have hln := hitsS_len (l.take i) v1 v2
        have hln2 : (l.take i).length ≤ i := List.length_take_le _ _
        obtain ⟨x, hxe⟩ : ∃ x, l[i] = x := ⟨_, rfl⟩
        have hxm : x ∈ l := hxe ▸ List.getElem_mem hlt
        rw [hxe] at c0 c1 c2 c3 c4 c5 hsn
        have hbA : Below W2.heap.size W2 (wr.alloc (.cells x.cells.toArray 103)) := bl_alloc hbr.out _
        have hcx := Lib.hid (hcl.out x hxm _ hbA)
        obtain ⟨L1, L2⟩ := hLd.out _ hbA
        have hbx := (Blk.new wr 103 x.cells)
        have hidx := Lib.hid (fun w3 (hw : Below (wr.alloc (.cells x.cells.toArray 103)).heap.size (wr.alloc (.cells x.cells.toArray 103)) w3) => (hbx.below hw).cell 0)
        have hBB := (hcl.out x hxm _ hbA)
        unfold Stp.cells at hcx L1 L2
        clear k0 hxm hxe hbx hBB
        obtain ⟨B, hB⟩ : ∃ B, hitS x v1 v2 = B := ⟨_, rfl⟩
        rw [hB] at hcx hsn
        replace hB := Lib.hid hB
        replace hbr := Lib.hid hbr
        have z0 : (0 : Int) ≤ (i : Int) := by omega
        have z1 : (i : Int) < (l.length : Int) := by omega
        replace hsn := Lib.hid hsn
        have hlB := Lib.hid (fun w3 (hw : Below (wr.alloc (.cells x.cells.toArray 103)).heap.size (wr.alloc (.cells x.cells.toArray 103)) w3) => (⟨bl_trans hbA hw, ownsRow_below (ho.out.alloc _) hw, by have := hw.size; simp at this; omega⟩ : Below W2.heap.size W2 w3 ∧ w3.ownsRow W2.heap.size 3 1 _ _ _ ∧ wr.heap.size < w3.heap.size))
        unfold Stp.cells at hidx hlB hbA
        replace hbA := Lib.hid hbA
        cases B
        · go_wp2_with (go_at_call 47; (with_reducible refine hcx.out.mono ?_); rintro e w4 ⟨rfl, hb4⟩; obtain ⟨m1, m2, m3⟩ := hlB.out _ hb4; replace m2 := Lib.hid m2)
          go_roundg (l.length - (i + 1))
          case measure => omega
          case rel => exact ⟨i + 1, rfl, by go_num, by omega, Lib.hid (by rw [hsn.out, if_neg (by simp), List.append_nil]; exact m2.out), Lib.hid m1⟩
        · obtain ⟨oa, oc, rfl⟩ := own_slice ho.out
          go_upto_region 8 with (go_at_call 47; (with_reducible refine hcx.out.mono ?_); rintro e w4 ⟨rfl, hb4⟩; obtain ⟨m1, m2, m3⟩ := hlB.out _ hb4; replace m2 := Lib.hid m2; have i0x := hidx.out _ hb4)
          simp only [List.getElem?_cons_zero] at i0x
          have hsr := Lib.hid (src_new w4 3 [.int .i64 x.id] w4.heap.size rfl)
          have ho2 := Lib.hid (m2.out.alloc (.cells [.int .i64 x.id].toArray 3))
          have hbs : W2.heap.size ≤ (w4.alloc (.cells [.int .i64 x.id].toArray 3)).heap.size := by have := m1.size; simp; omega
          have hgr := Lib.hid (fun w3 (hg : (w4.alloc (.cells [.int .i64 x.id].toArray 3)).grownBy w3 (Value.slice oa (hitsS (l.take i) v1 v2).length oc).ownBlock) => (bl_alloc m1 (.cells [.int .i64 x.id].toArray 3)).grown hg hbs (fun j hj => (ho2.out.lt j hj).1))
          have hone := Lib.hid (one_int x.id)
          replace hbs := Lib.hid hbs
          clear m2
          go_wp2_with (at_builtin; refine wpList_append_src _ (by rfl) (.tmp 25) (.tmp 29) 69 (by rfl) W2.heap.size 3 i0 _ 1 8 Try.underlying69 hi0 hz0 hz1 hz2 (by rfl) (by decide) _ _ _ (by rfl) ho2.out _ 1 _ (by rfl) hsr.out rfl hone.out (by unfold maxLen; omega) (by omega) hbs.out ?_; intro v2' w5 ho3 hg3; have hb5 := hgr.out _ hg3; replace ho3 := Lib.hid ho3; replace hg3 := Lib.hid hg3)
          go_roundg (l.length - (i + 1))
          case measure => omega
          case rel => exact ⟨i + 1, rfl, by go_num, by omega, Lib.hid (by rw [hsn.out]; simp only [if_true, List.length_append, List.map_append]; exact ho3.out), Lib.hid hb5⟩
      · obtain rfl : i = l.length := by omega
        rw [List.take_length] at ho
        go_wp2_with fail
        go_ret
        exact ⟨_, rfl, ownsRow_base ho.out hb0.out.size, bl_trans hb0.out hbr.out⟩
end Go.Proofs.Ytlaafamodaogmaa
