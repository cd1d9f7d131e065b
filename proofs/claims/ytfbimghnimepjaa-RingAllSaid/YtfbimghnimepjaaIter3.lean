/-
  A ring's All: what it hands back, gone through, gives the ring's entries under their numbers.
  Conditions: as each theorem states them.
-/
import Derived.Test.YtfbimghnimepjaaIter2
import Derived.RangeFuncBox
import Derived.Maps.AppendAt
namespace Go.Proofs.Ytfbimghnimepjaa
open Go.RowKit Go.Shelf
set_option linter.unusedVariables false
attribute [local go_sem] Oper.semAt_some

set_option maxRecDepth 100000 in
set_option maxHeartbeats 2000000 in
theorem ringSeq_int (la lo : Nat) (S : Nat → Prop) (low : Int) (hlow : 0 ≤ low ∧ low ≤ 1000000000000) (a : Option Addr) (len cap : Nat) (f : Nat → Value) (hreach : len ≤ 100000) (w : World) (hla : la < w.heap.size ∧ ¬ S la) (hlo : lo < w.heap.size ∧ ¬ S lo) (hS : ∀ k, w.heap.size ≤ k → S k)
    (c1 : w.cell? ⟨la, 0, none⟩ = some (.slice a len cap)) (c2 : w.cell? ⟨lo, 0, none⟩ = some (.int .i64 low)) (hI : Vals S w (.slice a len cap) len f) :
    SeqOwn Fence.wide 4 Try.prog 67 #[.pointer (some ⟨la, 0, none⟩), .pointer (some ⟨lo, 0, none⟩)] (fun x : Nat => #[Value.int .i64 (wrap64 (low + (x : Int))), f x]) S (fun ys => ys = List.range len) (fun pre => ∃ k, k ≤ len ∧ pre = List.range k) len w := by
  intro l J Jx W hW hJ hJx hY h0
  have c1' := (hW.cell (p := ⟨la, 0, none⟩) hla.1).trans c1
  have c2' := (hW.cell (p := ⟨lo, 0, none⟩) hlo.1).trans c2
  have hI' := hI.only (Only.of_below hW)
  have hSW : ∀ k, W.heap.size ≤ k → S k := fun k hk => hS k (Nat.le_trans hW.size hk)
  have hlaW : la < W.heap.size := Nat.lt_of_lt_of_le hla.1 hW.size
  have hloW : lo < W.heap.size := Nat.lt_of_lt_of_le hlo.1 hW.size
  have hloS := hlo.2
  clear c1 c2 hI hW hS
  refine callsIn_of_wp_marks Try.func67 rfl trivial ?_ rfl
  simp only [Try.ntmps67, List.size_toArray, List.length_cons, List.length_nil, Nat.reduceAdd, Nat.reduceSub, Array.replicate_succ, Array.replicate_zero, List.push_toArray, List.append_toArray, List.nil_append, List.cons_append]
  replace hSW := Lib.hid hSW
  gi_wp2_with (refine ⟨trivial, ?_⟩; gi_at_call 68; refine (slicesAll_int 3 _ _ _ _).mono ?_; rintro e w' ⟨rfl, rfl⟩)
  have bY := Boxed.new W 114 (.func (.yield l) #[] #[])
  have bN := Boxed.new (W.alloc (.cells #[.func (.yield l) #[] #[]] 114)) 61 (.slice a len cap)
  rw [World.size_alloc] at bN
  have hB0 : Only S W ((W.alloc (.cells #[.func (.yield l) #[] #[]] 114)).alloc (.cells #[.slice a len cap] 61)) := ((Only.refl S W).alloc _).alloc _
  refine wpIn_rangeFunc_ownG rfl (show 1 ≤ 4 by omega) (gf := 80) (lb := #[.pointer (some ⟨W.heap.size + 1, 0, none⟩)]) rfl trivial (enters_of Try.func80 (by kernel_rfl) rfl)
    (eachStops_int (W.heap.size + 1) S _ len f hreach _ (by simp) bN.cell (hI'.only hB0)) only_kt (only_kb (fun k hk => hSW.out k (by simp at hk; omega))) (Below.refl _ _) (fun _ => rfl)
    (fun pre A => J pre A ∧ A.cell? ⟨W.heap.size, 0, none⟩ = some (.func (.yield l) #[] #[]) ∧ Only S W A)
    (fun c pre A => c = .ret ∧ Jx pre A)
    (OwnFrom.and (fun s A B row hs hg hr => hJ s A B row hs hg (fun k e => ⟨by have := (hr k e).1; simp at this; omega, (hr k e).2⟩)) (OwnFrom.and (Own.from (fun s A B row hs hg hr => cell_kept hs hg hr) _) (ownFrom_only (fun k hk => hSW.out k (by simp at hk; omega)))))
    (fun c s A B row hs hg hr => ⟨hs.1, hJx s A B row hs.2 hg (fun k e => ⟨by have := (hr k e).1; simp at this; omega, (hr k e).2⟩)⟩)
    ⟨hJ.alloc _ (hJ.alloc _ h0), (bY.alloc _).cell, hB0⟩
    (fun x => { tmps := #[.func (.yield l) #[] #[], .pointer (some ⟨la, 0, none⟩), .pointer (some ⟨lo, 0, none⟩), .pointer (some ⟨W.heap.size, 0, none⟩), .int .i64 (x : Int), f x, .slice a len cap, .func (.func 80) #[] #[.pointer (some ⟨W.heap.size + 1, 0, none⟩)], .int .i64 (x : Int), f x, undef, undef, undef, undef, undef, undef, undef], defers := [] }) ?assign ?body ?done ?stop
  case assign =>
    intro l2 x A K hK
    gi_wp2
    exact hK
  case body =>
    rintro l2 pre x A ⟨hj, hc, hbel⟩ hlen
    obtain ⟨fn, tmps, assign, body, hy, hR⟩ := hY pre x A hj hlen
    try dsimp only at hy
    have cl := (only_cell hbel (o := 0) hloW hloS).trans c2'
    have hx : pre.length < 100001 := by omega
    replace hR := Lib.hid (roundIn_any (m' := 2 - 1) (l2 := l2) hR)
    clear hY hJ hJx
    gi_wp2
    refine hR.out.mono ?_
    rintro e B (⟨rfl, hj2, hb2, hk2⟩ | ⟨rfl, hjx, hk2⟩)
    · gi_wp2
      exact ⟨(hk2.mono (by simp; omega)).from, hb2, hj2, hk2.cell (Nat.le_refl _) hc, hbel.trans hb2⟩
    · gi_wp2
      exact ⟨(hk2.mono (by simp; omega)).from, rfl, hjx⟩
  case done =>
    rintro D ys A hD rfl ⟨hj, hc, hbel⟩ hK
    gi_wp2
    refine ⟨by simp, .inl ⟨_, _, rfl, run_takeDeferred hK, ?_⟩⟩
    exact ⟨_, results_none rfl _ _ _, ⟨_, rfl⟩, .inl ⟨_, rfl, hJ.putObj _ hj (by simp at hD; omega) hK rfl⟩⟩
  case stop =>
    rintro D c pre A hD ⟨k, hk, rfl⟩ ⟨rfl, hjx⟩ hK
    gi_wp2
    refine ⟨by simp, .inl ⟨_, _, rfl, run_takeDeferred hK, ?_⟩⟩
    exact ⟨_, results_none rfl _ _ _, ⟨_, rfl⟩, .inr ⟨_, ⟨k, hk, rfl⟩, hJx.putObj _ hjx (by simp at hD; omega) hK rfl⟩⟩

theorem infoint_ : (Try.prog.info? 3).map (fun i => (i.zero, i.size, i.bytes)) = some (some (.int .i64 0), 1, 8) := by kernel_rfl
set_option maxRecDepth 100000 in
set_option maxHeartbeats 4000000 in
theorem all_int (w : World) (p g : Nat) (room : List Value) (low high : Nat) (h : RingAt 107 3 w p g room low high) (hbig : high < 1099511627776) (f : Nat → Value) (hone : ∀ j, ∃ z : Int, f j = .int .i64 z)
    (hf : ∀ j, low + j < high → room[(low + j) % room.length]? = some (f j)) :
    Calls Try.prog 36 #[.pointer (some ⟨p, 0, none⟩)] w fun e w' => ∃ la lo a cap, e = .returned (.func (.func 67) #[] #[.pointer (some ⟨la, 0, none⟩), .pointer (some ⟨lo, 0, none⟩)]) ∧
      w'.cell? ⟨la, 0, none⟩ = some (.slice a (high - low) cap) ∧ w'.cell? ⟨lo, 0, none⟩ = some (.int .i64 (low : Int)) ∧ la = w.heap.size ∧ lo = w.heap.size + 1 ∧ lo < w'.heap.size ∧ Vals (fun k => k < w.heap.size + 2) w' (.slice a (high - low) cap) (high - low) f ∧ Below w.heap.size w w' := by
  obtain ⟨i0, hi, hz0, hz1, hz2⟩ := info_parts infoint_
  have hlh := h.lh
  have hhl := h.hl
  have hle := h.le
  have H := Lib.hid h
  replace hf := Lib.hid hf
  have b1 := Boxed.new w 61 (.slice none 0 0)
  have b2 := Boxed.new (w.alloc (.cells #[.slice none 0 0] 61)) 3 (.int .i64 (low : Int))
  rw [World.size_alloc] at b2
  replace b1 := Lib.hid (b1.alloc (.cells #[.int .i64 (low : Int)] 3))
  replace b2 := Lib.hid b2
  have hbelow : ∀ wr : World, Below w.heap.size w wr → RingAt 107 3 wr p g room low high := fun wr hb => H.out.below hb
  replace hbelow := Lib.hid hbelow
  have hlt0 : p < w.heap.size := h.blk.lt
  clear h
  go_enter Try.func36, Try.ntmps36
  go_wp2_with (go_at_call 40; refine (low_int _ p g room low high (hbelow.out _ (bl_alloc (Below.refl _ _) _))).mono ?_; rintro e w2 ⟨rfl, rfl⟩)
  go_loopw [5] (fun n wr => ∃ (k : Nat) (v : Value), n = .int .i64 ((low + k : Nat) : Int) ∧ low + k ≤ high ∧ Boxed wr w.heap.size 61 v ∧ Boxed wr (w.heap.size + 1) 3 (.int .i64 (low : Int)) ∧ wr.ownsRow (w.heap.size + 2) 3 1 v k ((List.range k).map f) ∧ Below w.heap.size w wr) (fun n _ => high - (intOf n).toNat)
  case atStart => exact ⟨0, _, by simp, by omega, b1.out, b2.out, World.ownsRow_nil _ _ _ _, bl_alloc (bl_alloc (Below.refl _ _) _) _⟩
  case round =>
    obtain ⟨k, v, rfl, hk, hv, hlo, hown, hnx⟩ := hrel
    have R := hbelow.out wr hnx
    have hsz : w.heap.size + 2 ≤ wr.heap.size := by have := hlo.lt; omega
    by_cases hlt : low + k < high
    · have hV := hf.out k hlt
      have hvc := hv.cell
      have hvf := hv.frozen
      have ne1 : some w.heap.size ≠ v.ownBlock := fun e => by have := (hown.lt _ e.symm).1; omega
      have ne2 : some (w.heap.size + 1) ≠ v.ownBlock := fun e => by have := (hown.lt _ e.symm).1; omega
      obtain ⟨z, hfk⟩ := hone k
      rw [hfk] at hV
      replace hv := Lib.hid hv
      replace hlo := Lib.hid hlo
      replace hown := Lib.hid hown
      replace hV := Lib.hid hV
      replace hfk := Lib.hid hfk
      clear hone
      go_wp2_with (first
        | (go_at_call 41; refine (high_int _ p g room low high R).mono ?_; rintro e w2 ⟨rfl, rfl⟩)
        | (go_at_call 39; refine (at_in_int (low + k) _ _ p g room low high R (by omega) hlt hV.out).mono ?_; rintro e w2 ⟨rfl, m, rfl⟩)
        | (at_builtin; refine wpList_append_own _ rfl (.tmp 23) (.tmp 25) 61 rfl (w.heap.size + 2) 3 i0 (.int .i64 0) 1 8 Try.underlying61 hi hz0 hz1 hz2 rfl (by decide) _ _ _ rfl ((show (wr.drewN m).ownsRow (w.heap.size + 2) 3 1 v k ((List.range k).map f) from hown.out).alloc _) ⟨wr.heap.size, 0, none⟩ 1 1 [.int .i64 z] rfl rfl (cell_one_new _ _ _) (by intro u hu; simp at hu; subst hu; rfl) (by unfold maxLen; omega) (by omega) (by simp; omega) ?_; intro v1 w1 hown1 hgrow1 hnil1; obtain ⟨g1, cap1, rfl⟩ := ownsRow_succ hown1; have hv1 : Boxed w1 w.heap.size 61 v := ((show Boxed (wr.drewN m) w.heap.size 61 v from hv.out).alloc _).kept hgrow1 ne1; have hlo1 : Boxed w1 (w.heap.size + 1) 3 (.int .i64 (low : Int)) := ((show Boxed (wr.drewN m) (w.heap.size + 1) 3 (.int .i64 (low : Int)) from hlo.out).alloc _).kept hgrow1 ne2; have hvc1 := hv1.cell; have hvf1 := hv1.frozen; have hb1 := ((bl_drewN hnx m).alloc (by have := hnx.size; simpa using this) _).grown hgrow1 (by have := hnx.size; simp; omega) (fun j hj => by have := (hown.out.lt j hj).1; omega); replace hown1 := Lib.hid hown1; replace hv1 := Lib.hid hv1; replace hlo1 := Lib.hid hlo1))
      all_goals go_roundw
      case measure => simp [intOf]; omega
      case rel =>
        refine ⟨k + 1, _, by go_num, by omega, hv1.out.set _, hlo1.out.other (by omega) _, ?_, hb1.setCell (p := ⟨w.heap.size, 0, none⟩) (Nat.le_refl _) _⟩
        have hk2 := hown1.out.kept (grownBy_setCell' w1 w.heap.size (.slice (some ⟨g1, 0, none⟩) (k + 1) cap1)) (.inr (fun e => by have := (hown1.out.lt _ e).1; omega))
        rw [List.range_succ, List.map_append, List.map_cons, List.map_nil, hfk.out]
        exact hk2
    · have hk' : k = high - low := by omega
      go_wp2_with (go_at_call 41; refine (high_int _ p g room low high R).mono ?_; rintro e w2 ⟨rfl, rfl⟩)
      all_goals go_ret
      all_goals
        rw [hk'] at hown
        rcases hown.2 with ⟨rfl, h0⟩ | ⟨g1, cap1, cur, rfl, hg1, hb1, hk1, hc1, hs1, ht1⟩
        · refine ⟨w.heap.size, w.heap.size + 1, none, 0, rfl, by rw [h0]; exact hv.cell, hlo.cell, rfl, rfl, hlo.lt, .inl ⟨by rw [h0], h0⟩, hnx⟩
        · refine ⟨w.heap.size, w.heap.size + 1, some ⟨g1, 0, none⟩, cap1, rfl, hv.cell, hlo.cell, rfl, rfl, hlo.lt, .inr ⟨g1, 0, cap1, rfl, by show ¬ g1 < _; omega, (Array.getElem?_eq_some_iff.1 hb1).1, fun j hj => ?_⟩, hnx⟩
          rw [Nat.zero_add, hown.cellAt j (by omega)]
          simp [hj]

set_option maxRecDepth 100000 in
set_option maxHeartbeats 2000000 in
theorem ringSeq_row (la lo : Nat) (S : Nat → Prop) (low : Int) (hlow : 0 ≤ low ∧ low ≤ 1000000000000) (a : Option Addr) (len cap : Nat) (f : Nat → Value) (hreach : len ≤ 100000) (w : World) (hla : la < w.heap.size ∧ ¬ S la) (hlo : lo < w.heap.size ∧ ¬ S lo) (hS : ∀ k, w.heap.size ≤ k → S k)
    (c1 : w.cell? ⟨la, 0, none⟩ = some (.slice a len cap)) (c2 : w.cell? ⟨lo, 0, none⟩ = some (.int .i64 low)) (hI : Vals S w (.slice a len cap) len f) :
    SeqOwn Fence.wide 4 Try.prog 65 #[.pointer (some ⟨la, 0, none⟩), .pointer (some ⟨lo, 0, none⟩)] (fun x : Nat => #[Value.int .i64 (wrap64 (low + (x : Int))), f x]) S (fun ys => ys = List.range len) (fun pre => ∃ k, k ≤ len ∧ pre = List.range k) len w := by
  intro l J Jx W hW hJ hJx hY h0
  have c1' := (hW.cell (p := ⟨la, 0, none⟩) hla.1).trans c1
  have c2' := (hW.cell (p := ⟨lo, 0, none⟩) hlo.1).trans c2
  have hI' := hI.only (Only.of_below hW)
  have hSW : ∀ k, W.heap.size ≤ k → S k := fun k hk => hS k (Nat.le_trans hW.size hk)
  have hlaW : la < W.heap.size := Nat.lt_of_lt_of_le hla.1 hW.size
  have hloW : lo < W.heap.size := Nat.lt_of_lt_of_le hlo.1 hW.size
  have hloS := hlo.2
  clear c1 c2 hI hW hS
  refine callsIn_of_wp_marks Try.func65 rfl trivial ?_ rfl
  simp only [Try.ntmps65, List.size_toArray, List.length_cons, List.length_nil, Nat.reduceAdd, Nat.reduceSub, Array.replicate_succ, Array.replicate_zero, List.push_toArray, List.append_toArray, List.nil_append, List.cons_append]
  replace hSW := Lib.hid hSW
  gi_wp2_with (refine ⟨trivial, ?_⟩; gi_at_call 66; refine (slicesAll_row 3 _ _ _ _).mono ?_; rintro e w' ⟨rfl, rfl⟩)
  have bY := Boxed.new W 112 (.func (.yield l) #[] #[])
  have bN := Boxed.new (W.alloc (.cells #[.func (.yield l) #[] #[]] 112)) 69 (.slice a len cap)
  rw [World.size_alloc] at bN
  have hB0 : Only S W ((W.alloc (.cells #[.func (.yield l) #[] #[]] 112)).alloc (.cells #[.slice a len cap] 69)) := ((Only.refl S W).alloc _).alloc _
  refine wpIn_rangeFunc_ownG rfl (show 1 ≤ 4 by omega) (gf := 79) (lb := #[.pointer (some ⟨W.heap.size + 1, 0, none⟩)]) rfl trivial (enters_of Try.func79 (by kernel_rfl) rfl)
    (eachStops_row (W.heap.size + 1) S _ len f hreach _ (by simp) bN.cell (hI'.only hB0)) only_kt (only_kb (fun k hk => hSW.out k (by simp at hk; omega))) (Below.refl _ _) (fun _ => rfl)
    (fun pre A => J pre A ∧ A.cell? ⟨W.heap.size, 0, none⟩ = some (.func (.yield l) #[] #[]) ∧ Only S W A)
    (fun c pre A => c = .ret ∧ Jx pre A)
    (OwnFrom.and (fun s A B row hs hg hr => hJ s A B row hs hg (fun k e => ⟨by have := (hr k e).1; simp at this; omega, (hr k e).2⟩)) (OwnFrom.and (Own.from (fun s A B row hs hg hr => cell_kept hs hg hr) _) (ownFrom_only (fun k hk => hSW.out k (by simp at hk; omega)))))
    (fun c s A B row hs hg hr => ⟨hs.1, hJx s A B row hs.2 hg (fun k e => ⟨by have := (hr k e).1; simp at this; omega, (hr k e).2⟩)⟩)
    ⟨hJ.alloc _ (hJ.alloc _ h0), (bY.alloc _).cell, hB0⟩
    (fun x => { tmps := #[.func (.yield l) #[] #[], .pointer (some ⟨la, 0, none⟩), .pointer (some ⟨lo, 0, none⟩), .pointer (some ⟨W.heap.size, 0, none⟩), .int .i64 (x : Int), f x, .slice a len cap, .func (.func 79) #[] #[.pointer (some ⟨W.heap.size + 1, 0, none⟩)], .int .i64 (x : Int), f x, undef, undef, undef, undef, undef, undef, undef], defers := [] }) ?assign ?body ?done ?stop
  case assign =>
    intro l2 x A K hK
    gi_wp2
    exact hK
  case body =>
    rintro l2 pre x A ⟨hj, hc, hbel⟩ hlen
    obtain ⟨fn, tmps, assign, body, hy, hR⟩ := hY pre x A hj hlen
    try dsimp only at hy
    have cl := (only_cell hbel (o := 0) hloW hloS).trans c2'
    have hx : pre.length < 100001 := by omega
    replace hR := Lib.hid (roundIn_any (m' := 2 - 1) (l2 := l2) hR)
    clear hY hJ hJx
    gi_wp2
    refine hR.out.mono ?_
    rintro e B (⟨rfl, hj2, hb2, hk2⟩ | ⟨rfl, hjx, hk2⟩)
    · gi_wp2
      exact ⟨(hk2.mono (by simp; omega)).from, hb2, hj2, hk2.cell (Nat.le_refl _) hc, hbel.trans hb2⟩
    · gi_wp2
      exact ⟨(hk2.mono (by simp; omega)).from, rfl, hjx⟩
  case done =>
    rintro D ys A hD rfl ⟨hj, hc, hbel⟩ hK
    gi_wp2
    refine ⟨by simp, .inl ⟨_, _, rfl, run_takeDeferred hK, ?_⟩⟩
    exact ⟨_, results_none rfl _ _ _, ⟨_, rfl⟩, .inl ⟨_, rfl, hJ.putObj _ hj (by simp at hD; omega) hK rfl⟩⟩
  case stop =>
    rintro D c pre A hD ⟨k, hk, rfl⟩ ⟨rfl, hjx⟩ hK
    gi_wp2
    refine ⟨by simp, .inl ⟨_, _, rfl, run_takeDeferred hK, ?_⟩⟩
    exact ⟨_, results_none rfl _ _ _, ⟨_, rfl⟩, .inr ⟨_, ⟨k, hk, rfl⟩, hJx.putObj _ hjx (by simp at hD; omega) hK rfl⟩⟩

theorem inforow_ : (Try.prog.info? 73).map (fun i => (i.zero, i.size, i.bytes)) = some (some (.slice none 0 0), 1, 24) := by kernel_rfl
set_option maxRecDepth 100000 in
set_option maxHeartbeats 4000000 in
theorem all_row (w : World) (p g : Nat) (room : List Value) (low high : Nat) (h : RingAt 109 73 w p g room low high) (hbig : high < 1099511627776) (f : Nat → Value) (hone : ∀ j, ∃ za zl zc, f j = .slice za zl zc)
    (hf : ∀ j, low + j < high → room[(low + j) % room.length]? = some (f j)) :
    Calls Try.prog 35 #[.pointer (some ⟨p, 0, none⟩)] w fun e w' => ∃ la lo a cap, e = .returned (.func (.func 65) #[] #[.pointer (some ⟨la, 0, none⟩), .pointer (some ⟨lo, 0, none⟩)]) ∧
      w'.cell? ⟨la, 0, none⟩ = some (.slice a (high - low) cap) ∧ w'.cell? ⟨lo, 0, none⟩ = some (.int .i64 (low : Int)) ∧ la = w.heap.size ∧ lo = w.heap.size + 1 ∧ lo < w'.heap.size ∧ Vals (fun k => k < w.heap.size + 2) w' (.slice a (high - low) cap) (high - low) f ∧ Below w.heap.size w w' := by
  obtain ⟨i0, hi, hz0, hz1, hz2⟩ := info_parts inforow_
  have hlh := h.lh
  have hhl := h.hl
  have hle := h.le
  have H := Lib.hid h
  replace hf := Lib.hid hf
  have b1 := Boxed.new w 69 (.slice none 0 0)
  have b2 := Boxed.new (w.alloc (.cells #[.slice none 0 0] 69)) 3 (.int .i64 (low : Int))
  rw [World.size_alloc] at b2
  replace b1 := Lib.hid (b1.alloc (.cells #[.int .i64 (low : Int)] 3))
  replace b2 := Lib.hid b2
  have hbelow : ∀ wr : World, Below w.heap.size w wr → RingAt 109 73 wr p g room low high := fun wr hb => H.out.below hb
  replace hbelow := Lib.hid hbelow
  have hlt0 : p < w.heap.size := h.blk.lt
  clear h
  go_enter Try.func35, Try.ntmps35
  go_wp2_with (go_at_call 62; refine (low_row _ p g room low high (hbelow.out _ (bl_alloc (Below.refl _ _) _))).mono ?_; rintro e w2 ⟨rfl, rfl⟩)
  go_loopw [5] (fun n wr => ∃ (k : Nat) (v : Value), n = .int .i64 ((low + k : Nat) : Int) ∧ low + k ≤ high ∧ Boxed wr w.heap.size 69 v ∧ Boxed wr (w.heap.size + 1) 3 (.int .i64 (low : Int)) ∧ wr.ownsRow (w.heap.size + 2) 73 1 v k ((List.range k).map f) ∧ Below w.heap.size w wr) (fun n _ => high - (intOf n).toNat)
  case atStart => exact ⟨0, _, by simp, by omega, b1.out, b2.out, World.ownsRow_nil _ _ _ _, bl_alloc (bl_alloc (Below.refl _ _) _) _⟩
  case round =>
    obtain ⟨k, v, rfl, hk, hv, hlo, hown, hnx⟩ := hrel
    have R := hbelow.out wr hnx
    have hsz : w.heap.size + 2 ≤ wr.heap.size := by have := hlo.lt; omega
    by_cases hlt : low + k < high
    · have hV := hf.out k hlt
      have hvc := hv.cell
      have hvf := hv.frozen
      have ne1 : some w.heap.size ≠ v.ownBlock := fun e => by have := (hown.lt _ e.symm).1; omega
      have ne2 : some (w.heap.size + 1) ≠ v.ownBlock := fun e => by have := (hown.lt _ e.symm).1; omega
      obtain ⟨za, zl, zc, hfk⟩ := hone k
      rw [hfk] at hV
      replace hv := Lib.hid hv
      replace hlo := Lib.hid hlo
      replace hown := Lib.hid hown
      replace hV := Lib.hid hV
      replace hfk := Lib.hid hfk
      clear hone
      go_wp2_with (first
        | (go_at_call 63; refine (high_row _ p g room low high R).mono ?_; rintro e w2 ⟨rfl, rfl⟩)
        | (go_at_call 64; refine (at_in_row (low + k) _ _ p g room low high R (by omega) hlt hV.out).mono ?_; rintro e w2 ⟨rfl, m, rfl⟩)
        | (at_builtin; refine wpList_append_own _ rfl (.tmp 23) (.tmp 25) 69 rfl (w.heap.size + 2) 73 i0 (.slice none 0 0) 1 24 Try.underlying69 hi hz0 hz1 hz2 rfl (by decide) _ _ _ rfl ((show (wr.drewN m).ownsRow (w.heap.size + 2) 73 1 v k ((List.range k).map f) from hown.out).alloc _) ⟨wr.heap.size, 0, none⟩ 1 1 [.slice za zl zc] rfl rfl (cell_one_new _ _ _) (by intro u hu; simp at hu; subst hu; rfl) (by unfold maxLen; omega) (by omega) (by simp; omega) ?_; intro v1 w1 hown1 hgrow1 hnil1; obtain ⟨g1, cap1, rfl⟩ := ownsRow_succ hown1; have hv1 : Boxed w1 w.heap.size 69 v := ((show Boxed (wr.drewN m) w.heap.size 69 v from hv.out).alloc _).kept hgrow1 ne1; have hlo1 : Boxed w1 (w.heap.size + 1) 3 (.int .i64 (low : Int)) := ((show Boxed (wr.drewN m) (w.heap.size + 1) 3 (.int .i64 (low : Int)) from hlo.out).alloc _).kept hgrow1 ne2; have hvc1 := hv1.cell; have hvf1 := hv1.frozen; have hb1 := ((bl_drewN hnx m).alloc (by have := hnx.size; simpa using this) _).grown hgrow1 (by have := hnx.size; simp; omega) (fun j hj => by have := (hown.out.lt j hj).1; omega); replace hown1 := Lib.hid hown1; replace hv1 := Lib.hid hv1; replace hlo1 := Lib.hid hlo1))
      all_goals go_roundw
      case measure => simp [intOf]; omega
      case rel =>
        refine ⟨k + 1, _, by go_num, by omega, hv1.out.set _, hlo1.out.other (by omega) _, ?_, hb1.setCell (p := ⟨w.heap.size, 0, none⟩) (Nat.le_refl _) _⟩
        have hk2 := hown1.out.kept (grownBy_setCell' w1 w.heap.size (.slice (some ⟨g1, 0, none⟩) (k + 1) cap1)) (.inr (fun e => by have := (hown1.out.lt _ e).1; omega))
        rw [List.range_succ, List.map_append, List.map_cons, List.map_nil, hfk.out]
        exact hk2
    · have hk' : k = high - low := by omega
      go_wp2_with (go_at_call 63; refine (high_row _ p g room low high R).mono ?_; rintro e w2 ⟨rfl, rfl⟩)
      all_goals go_ret
      all_goals
        rw [hk'] at hown
        rcases hown.2 with ⟨rfl, h0⟩ | ⟨g1, cap1, cur, rfl, hg1, hb1, hk1, hc1, hs1, ht1⟩
        · refine ⟨w.heap.size, w.heap.size + 1, none, 0, rfl, by rw [h0]; exact hv.cell, hlo.cell, rfl, rfl, hlo.lt, .inl ⟨by rw [h0], h0⟩, hnx⟩
        · refine ⟨w.heap.size, w.heap.size + 1, some ⟨g1, 0, none⟩, cap1, rfl, hv.cell, hlo.cell, rfl, rfl, hlo.lt, .inr ⟨g1, 0, cap1, rfl, by show ¬ g1 < _; omega, (Array.getElem?_eq_some_iff.1 hb1).1, fun j hj => ?_⟩, hnx⟩
          rw [Nat.zero_add, hown.cellAt j (by omega)]
          simp [hj]
end Go.Proofs.Ytfbimghnimepjaa
