/-
  The contract of Undo, of chapter 23.
  Conditions: as each theorem states them.
-/
import Derived.Test.YtfbimghnimepjaaDelU
import Derived.OwnWalkIn
import Derived.TacticsInMore
import Derived.ControlIn
import Derived.Stop.RegionWithIn
namespace Go.Proofs.Ytfbimghnimepjaa
open Go.RowKit Go.Shelf
set_option linter.unusedVariables false
set_option linter.unusedSimpArgs false
attribute [local go_sem] Oper.semAt_some
def dfl : DM.Chg := ⟨0, 0, [], []⟩
def gd (ds : List DM.Chg) (i : Nat) : DM.Chg := ds.getD i dfl
def tn (ds : List DM.Chg) (i : Nat) : DM.Chg := (gd ds i).turned
theorem gd_lt {ds : List DM.Chg} {i : Nat} (h : i < ds.length) : gd ds i = ds[i] := by simp [gd, List.getD, h]
theorem gd_ge {ds : List DM.Chg} {i : Nat} (h : ¬ i < ds.length) : gd ds i = dfl := by
  unfold gd; rw [List.getD_eq_getElem?_getD, List.getElem?_eq_none (by omega)]; rfl
theorem rv_map {ds : List DM.Chg} {k : Nat} (h : k ≤ ds.length) : (rv ds.length k).map (tn ds) = (ds.reverse.map DM.Chg.turned).take k := by
  apply List.ext_getElem
  · simp [rv]; omega
  · intro i h1 h2
    simp only [rv, List.map_map, List.length_map, List.length_range] at h1
    simp only [rv, List.map_map, List.getElem_map, List.getElem_range, List.getElem_take, List.getElem_reverse, Function.comp, tn]
    rw [gd_lt (by omega)]
theorem undo_rv (ds : List DM.Chg) (xs : List (List UInt8)) : DM.undo ds xs = DM.apply ((rv ds.length ds.length).map (tn ds)) xs := by
  rw [rv_map (Nat.le_refl _), List.take_of_length_le (by simp)]; rfl
theorem undo_none {ds : List DM.Chg} {xs : List (List UInt8)} {k : Nat} (hk : k ≤ ds.length) (h : DM.apply ((rv ds.length k).map (tn ds)) xs = none) : DM.undo ds xs = none := by
  rw [rv_map hk] at h
  unfold DM.undo
  rw [← List.take_append_drop k (ds.reverse.map DM.Chg.turned), DM.apply_append, h]
  rfl
theorem apply_snoc {ds : List DM.Chg} {pre : List Nat} {x : Nat} {xs ys : List (List UInt8)} (h : DM.apply (pre.map (tn ds)) xs = some ys) : DM.apply ((pre ++ [x]).map (tn ds)) xs = DM.put ys (tn ds x) := by
  rw [List.map_append, DM.apply_append, h]
  simp [DM.apply]
/-- the changes' cells -/
theorem ChAt.cells {w : World} {a : Option Addr} {ds : List DM.Chg} {K : Nat → Prop} (h : ChAt K w a ds) (hl : ∀ i (h : i < ds.length), ds[i].old.length ≤ 200 ∧ ds[i].new.length ≤ 200) :
    ∃ (oa na : Nat → Option Addr) (oc nc : Nat → Nat), (0 < ds.length → ∃ b off, a = some ⟨b, off, none⟩ ∧ K b ∧ b < w.heap.size ∧ chCells w b off ds.length (fun j => (.int .i64 (gd ds j).field, .int .i64 (gd ds j).pos, .slice (oa j) (gd ds j).old.length (oc j), .slice (na j) (gd ds j).new.length (nc j)))) ∧
      ∀ j, ChVal w (gd ds j) (oa j) (oc j) (na j) (nc j) := by
  by_cases h0 : 0 < ds.length
  · obtain ⟨b, o, e, k, l, r⟩ := h h0
    have hx : ∀ j, j < ds.length → ∃ y : (Option Addr × Nat) × (Option Addr × Nat), w.cell? ⟨b, o + j * 4 + 2, none⟩ = some (.slice y.1.1 (gd ds j).old.length y.1.2) ∧ w.cell? ⟨b, o + j * 4 + 3, none⟩ = some (.slice y.2.1 (gd ds j).new.length y.2.2) ∧ ChVal w (gd ds j) y.1.1 y.1.2 y.2.1 y.2.2 := fun j hj => by
      obtain ⟨c1, c2, ⟨xa, xc, c3, h3, h3', b3⟩, ⟨ya, yc, c4, h4, h4', b4⟩⟩ := r j hj
      rw [gd_lt hj]
      have := hl j hj
      exact ⟨((xa, xc), (ya, yc)), c3, c4, by omega, h3, h3', by omega, h4, h4', b3.any, b4.any⟩
    obtain ⟨f, hf⟩ := Deep.choose_lt (α := (Option Addr × Nat) × (Option Addr × Nat)) hx
    refine ⟨fun j => if j < ds.length then (f j).1.1 else none, fun j => if j < ds.length then (f j).2.1 else none, fun j => if j < ds.length then (f j).1.2 else 0, fun j => if j < ds.length then (f j).2.2 else 0, fun _ => ⟨b, o, e, k, l, fun j hj => ?_⟩, fun j => ?_⟩
    · simp only [if_pos hj]
      refine ⟨?_, ?_, (hf j hj).1, (hf j hj).2.1⟩
      · rw [gd_lt hj]; exact (r j hj).f
      · rw [gd_lt hj]; exact (r j hj).p
    · by_cases hj : j < ds.length
      · simp only [if_pos hj]
        exact (hf j hj).2.2
      · simp only [if_neg hj]
        rw [gd_ge hj]
        exact ⟨by simp [dfl], by simp [dfl], by simp [maxLen], by simp [dfl], by simp [dfl], by simp [maxLen], ByAt.nil _ _ _ _, ByAt.nil _ _ _ _⟩
  · refine ⟨fun _ => none, fun _ => none, fun _ => 0, fun _ => 0, fun h => absurd h h0, fun j => ?_⟩
    rw [gd_ge (by omega)]
    exact ⟨by simp [dfl], by simp [dfl], by simp [maxLen], by simp [dfl], by simp [dfl], by simp [maxLen], ByAt.nil _ _ _ _, ByAt.nil _ _ _ _⟩
theorem ChVal.turned {w : World} {c : DM.Chg} {oa na : Option Addr} {oc nc : Nat} (h : ChVal w c oa oc na nc) : ChVal w c.turned na nc oa oc := ⟨h.n1, h.n2, h.n3, h.o1, h.o2, h.o3, h.new, h.old⟩
theorem ChVal.only {S : Nat → Prop} {w w' : World} {c : DM.Chg} {oa na : Option Addr} {oc nc : Nat} {K : Nat → Prop} (h : ChVal w c oa oc na nc) (ho : ByAt K false w oa c.old) (hn : ByAt K false w na c.new) (hS : Only S w w') (hK : ∀ b, K b → ¬ S b) : ChVal w' c oa oc na nc :=
  ⟨h.o1, h.o2, h.o3, h.n1, h.n2, h.n3, (ho.only hS hK).any, (hn.only hS hK).any⟩
theorem ChVal.only' {N : Nat} {S : Nat → Prop} {w w' : World} {c : DM.Chg} {oa na : Option Addr} {oc nc : Nat} (h : ChVal w c oa oc na nc) (hN : N = w.heap.size) (hS : Only S w w') (hK : ∀ b, b < N → ¬ S b) : ChVal w' c oa oc na nc := by
  subst hN
  exact h.only (h.old.lt.mono fun b h => h.2) (h.new.lt.mono fun b h => h.2) hS hK
theorem gd_old {ds : List DM.Chg} (h : ∀ i (h : i < ds.length), ds[i].old.length ≤ 200 ∧ ds[i].new.length ≤ 200) (x : Nat) : (gd ds x).old.length ≤ 200 := by
  by_cases hx : x < ds.length
  · rw [gd_lt hx]; exact (h x hx).1
  · rw [gd_ge hx]; simp [dfl]
theorem OutAt.mono {K L : Nat → Prop} {own : Bool} {w : World} {a : Option Addr} {xs : List (List UInt8)} (h : OutAt K own w a xs) (hK : ∀ b, K b → L b) : OutAt L own w a xs :=
  fun h0 => let ⟨g, e, k, l, f, r⟩ := h h0
    ⟨g, e, hK _ k, l, f, fun i hi => let ⟨xa, xc, e, h1, h2, h3⟩ := r i hi; ⟨xa, xc, e, h1, h2, h3.mono (fun b hb => ⟨hK b hb.1, hb.2⟩)⟩⟩
theorem kf_below {N : Nat} {W W' : World} (h : Below W.heap.size W W') : KeepsFrom N W W' := ⟨h.size, fun k o _ hk _ => (h.block k (Array.getElem?_eq_some_iff.1 hk).1).trans hk⟩
theorem kf_only {N : Nat} {S : Nat → Prop} {W W' : World} (h : Only S W W') (hS : ∀ k, N ≤ k → ¬ S k) : KeepsFrom N W W' := ⟨h.size, fun k o hN hk _ => (h.block k (Array.getElem?_eq_some_iff.1 hk).1 (hS k hN)).trans hk⟩
set_option maxHeartbeats 4000000 in
set_option maxRecDepth 100000 in
theorem undo_any (da la : Option Addr) (ds : List DM.Chg) (xs : List (List UInt8)) (dc lc : Nat) (w : World) (hd : ds.length ≤ 20) (hds : ∀ i (h : i < ds.length), ds[i].old.length ≤ 200 ∧ ds[i].new.length ≤ 200) (hn : xs.length ≤ 20) (hx : Lens 10000 xs)
    (h1 : ChAt (fun _ => True) w da ds) (h2 : TxAt (fun _ => True) false w la xs) :
    Calls Try.prog 48 #[.slice da ds.length dc, .slice la xs.length lc] w (Applied (DM.undo ds xs) w) := by
  obtain ⟨oa, na, oc, nc, hcs, hcv⟩ := h1.cells hds
  have hb0 : Below w.heap.size w ((w.alloc (.cells #[.slice none 0 0] 69)).alloc (.cells #[.bool false] 4)) := bl_alloc (bl_alloc (Below.refl _ _) _) _
  have bA := (Blk.new w 69 [.slice none 0 0]).alloc (.cells #[.bool false] 4)
  have bB := Blk.new (w.alloc (.cells #[.slice none 0 0] 69)) 4 [.bool false]
  rw [World.size_alloc] at bB
  obtain ⟨W0, hW0⟩ : ∃ W0, (w.alloc (.cells #[.slice none 0 0] 69)).alloc (.cells #[.bool false] 4) = W0 := ⟨_, rfl⟩
  have sz0 : W0.heap.size = w.heap.size + 2 := by rw [← hW0]; simp
  have hcp := Lib.hid (copied_any la xs lc W0 (by omega) (fun j hj => by have := hx j hj; omega) (h2.below (hW0 ▸ hb0)))
  have bA : Blk W0 w.heap.size 69 [.slice none 0 0] := hW0 ▸ bA
  have bB : Blk W0 (w.heap.size + 1) 4 [.bool false] := hW0 ▸ bB
  have hb0 : Below w.heap.size w W0 := hW0 ▸ hb0
  replace hW0 := Lib.hid hW0
  replace sz0 := Lib.hid sz0
  replace hcs := Lib.hid hcs
  replace hcv := Lib.hid hcv
  replace hds := Lib.hid hds
  replace hx := Lib.hid hx
  clear h1 h2
  refine (callsIn_wide (n := 4)).1 ?_
  refine callsIn_of_wp_marks Try.func48 rfl trivial ?_ rfl
  simp only [Try.ntmps48, List.size_toArray, List.length_cons, List.length_nil, Nat.reduceAdd, Nat.reduceSub, Array.replicate_succ, Array.replicate_zero, List.push_toArray, List.append_toArray, List.nil_append, List.cons_append]
  refine wpIn_wide.2 ?_
  go_wp2_with fail
  rw [hW0.out]
  refine hcp.out.mono ?_
  rintro e w1 ⟨a1, c1, rfl, ho1, hb1⟩
  go_wp2_with (go_at_call 75; refine (backward_any _ _ _ _).mono ?_; rintro e w' ⟨rfl, rfl⟩)
  have sz1 : w.heap.size + 2 ≤ w1.heap.size := by have := hb1.size; have := sz0.out; omega
  have hga : ∀ q, a1 = some ⟨q, 0, none⟩ → 0 < xs.length → w.heap.size + 2 ≤ q ∧ q < w1.heap.size := fun q e h => by
    obtain ⟨g, e2, hg, hl, _⟩ := ho1 h
    rw [e2] at e; injection e with e; injection e with e; have := sz0.out; omega
  have b2 := (Blk.new w1 69 [.slice a1 xs.length c1]).alloc (.cells #[.slice da ds.length dc] 87)
  have b3 := Blk.new (w1.alloc (.cells #[.slice a1 xs.length c1] 69)) 87 [.slice da ds.length dc]
  rw [World.size_alloc] at b3
  have hb3 : Below w1.heap.size w1 ((w1.alloc (.cells #[.slice a1 xs.length c1] 69)).alloc (.cells #[.slice da ds.length dc] 87)) := bl_alloc (bl_alloc (Below.refl _ _) _) _
  have sz3 : ((w1.alloc (.cells #[.slice a1 xs.length c1] 69)).alloc (.cells #[.slice da ds.length dc] 87)).heap.size = w1.heap.size + 2 := by simp
  obtain ⟨W3, hW3⟩ : ∃ W3, (w1.alloc (.cells #[.slice a1 xs.length c1] 69)).alloc (.cells #[.slice da ds.length dc] 87) = W3 := ⟨_, rfl⟩
  rw [hW3] at b2 b3 hb3 sz3 ⊢
  have ho3 := ho1.below hb3
  have bA3 := (bA.below hb1).below hb3
  have bB3 := (bB.below hb1).below hb3
  have hw3 : Below w.heap.size w W3 := bl_trans (bl_trans hb0 hb1) hb3
  have hcs3 : 0 < ds.length → ∃ b off, da = some ⟨b, off, none⟩ ∧ b < W3.heap.size ∧ ¬ (w.heap.size + 2 ≤ b ∧ b ≠ w1.heap.size ∧ b ≠ w1.heap.size + 1) ∧ chCells W3 b off ds.length (fun j => (.int .i64 (gd ds j).field, .int .i64 (gd ds j).pos, .slice (oa j) (gd ds j).old.length (oc j), .slice (na j) (gd ds j).new.length (nc j))) := fun h0 => by
    obtain ⟨b, off, e, _, hbl, hcc⟩ := hcs.out h0
    exact ⟨b, off, e, Nat.lt_of_lt_of_le hbl hw3.size, by omega, fun j hj => let ⟨c1, c2, c3, c4⟩ := hcc j hj; ⟨(hw3.cell (p := ⟨b, _, none⟩) hbl).trans c1, (hw3.cell (p := ⟨b, _, none⟩) hbl).trans c2, (hw3.cell (p := ⟨b, _, none⟩) hbl).trans c3, (hw3.cell (p := ⟨b, _, none⟩) hbl).trans c4⟩⟩
  have c3 := b3.cell 0
  clear hW3 hcp ho1 b3
  refine (wpIn_wide (n := 4)).1 ?_
  refine wpIn_rangeFunc_ownH rfl (show 1 ≤ 4 by omega) (gf := 84) (lb := #[.pointer (some ⟨w1.heap.size + 1, 0, none⟩)]) rfl trivial (enters_of Try.func84 (by kernel_rfl) rfl)
    (backStops (w1.heap.size + 1) da ds.length dc (fun k => w.heap.size + 2 ≤ k ∧ k ≠ w1.heap.size ∧ k ≠ w1.heap.size + 1) _ (by omega) W3 (by omega) (fun h => h.2.2 rfl) c3 hcs3) only_kt (only_kb (N := W3.heap.size) (fun k hk => ⟨by omega, by omega, by omega⟩)) (Below.refl _ _) (fun _ => rfl)
    (fun pre W => (∃ ys : List (List UInt8), DM.apply (pre.map (tn ds)) xs = some ys ∧ ys.length = xs.length ∧ Lens (10000 + 200 * pre.length) ys ∧ OutAt (fun b => W0.heap.size ≤ b) true W a1 ys) ∧ Only (fun k => w.heap.size + 2 ≤ k ∧ k ≠ w1.heap.size ∧ k ≠ w1.heap.size + 1) W3 W)
    (fun c pre W => c = .ret ∧ DM.apply (pre.map (tn ds)) xs = none ∧ Blk W w.heap.size 69 [.slice none 0 0] ∧ Blk W (w.heap.size + 1) 4 [.bool false] ∧ Below w.heap.size w W)
    ?hI ?hIx ?h0 
    (fun x a' W => ∃ Bx, W3.heap.size ≤ Bx ∧ Blk W Bx 116 [.int .i64 (gd ds x).field, .int .i64 (gd ds x).pos, .slice (oa x) (gd ds x).old.length (oc x), .slice (na x) (gd ds x).new.length (nc x)] ∧
      ∃ t7 t13 t14, a' = { tmps := #[.slice da ds.length dc, .slice la xs.length lc, undef, undef, .pointer (some ⟨w.heap.size, 0, none⟩), .pointer (some ⟨w.heap.size + 1, 0, none⟩), .pointer (some ⟨w1.heap.size, 0, none⟩), t7, .pointer (some ⟨Bx, 0, none⟩), .slice la xs.length lc, .slice a1 xs.length c1, .slice da ds.length dc, .func (.func 84) #[] #[.pointer (some ⟨w1.heap.size + 1, 0, none⟩)], t13, t14, undef, undef, undef, undef, undef, undef], defers := [] })
    ?hAx ?assign ?body ?done ?stop
  case hI =>
    refine OwnFrom.and ?_ (ownFrom_only (fun k hk => ⟨by omega, by omega, by omega⟩))
    rintro s A B row ⟨ys, h3, h4, h5, h6⟩ hg hr
    exact ⟨ys, h3, h4, h5, h6.grown hg (fun r e => (hr r e).2)⟩
  case hIx =>
    rintro c s A B row ⟨h1, h2, h3, h4, h5⟩ hg hr
    refine ⟨h1, h2, h3.of_eq (gown hg (fun r e => (hr r e).2) (h3.cell 0)), h4.of_eq (gown hg (fun r e => (hr r e).2) (h4.cell 0)), ?_⟩
    exact ⟨hg.os.trans h5.os, hg.tape.trans h5.tape, hg.output.trans h5.output, Nat.le_trans h5.size hg.size, fun k hk => (hg.block k (Nat.lt_of_lt_of_le hk h5.size) (fun e => by have := (hr _ e.symm).1; omega)).trans (h5.block k hk)⟩
  case h0 => exact ⟨⟨xs, rfl, rfl, hx.out, ho3⟩, Only.refl _ _⟩
  case hAx =>
    rintro x a' _ A B row ⟨Bx, h1, h2, h3⟩ hg hr
    exact ⟨Bx, h1, h2.of_eq (gown hg (fun r e => (hr r e).2) (h2.cell 0)), h3⟩
  case assign =>
    rintro l pre x W K hi hK
    have hi' := Lib.hid hi
    clear hi hcs3
    unfold chV
    gi_wp2
    refine hK _ _ ((KeepsOthers.alloc _ _).from _) (Only.alloc (Only.refl _ _) _) ⟨?_, hi'.out.2.alloc _⟩ ⟨W.heap.size, hi'.out.2.size, Blk.new W _ _, _, _, _, rfl⟩
    obtain ⟨ys, h3, h4, h5, h6⟩ := hi'.out.1
    exact ⟨ys, h3, h4, h5, h6.below (bl_alloc (Below.refl _ _) _)⟩
  case body =>
    rintro l pre x a' W hl ⟨r, hr⟩ ⟨⟨ys, hap, hyl, hyb, hoy⟩, hon⟩ ⟨Bx, hBx, bX, t7, t13, t14, rfl⟩ hlen
    have cv := (hcv.out x).only' (w' := W) rfl (S := fun k => w.heap.size + 2 ≤ k ∧ k ≠ w1.heap.size ∧ k ≠ w1.heap.size + 1) ((Only.of_below hw3).trans hon) (fun b hb h => by omega)
    have k0 := bX.cell 0
    have k1 := bX.cell 1
    have k2 := bX.cell 2
    have k3 := bX.cell 3
    have hOut : Blk W w1.heap.size 69 [.slice a1 xs.length c1] := b2.only hon (fun h => h.2.1 rfl)
    have bAW : Blk W w.heap.size 69 [.slice none 0 0] := bA3.only hon (fun h => by omega)
    have bBW : Blk W (w.heap.size + 1) 4 [.bool false] := bB3.only hon (fun h => by omega)
    have ko := hOut.cell 0
    have hsn := apply_snoc (x := x) hap
    have htu := turned_any (gd ds x).field (gd ds x).pos (oa x) (na x) (gd ds x).old.length (oc x) (gd ds x).new.length (nc x)
    rcases hp : DM.put ys (tn ds x) with _ | zs
    · have hpn := fun (W' : World) (hb : Below W.heap.size W W') => (by
        rw [← hyl]
        exact put_none (fun b => W0.heap.size ≤ b) (tn ds x) (na x) (oa x) a1 (nc x) (oc x) c1 ys W' (by omega) (fun j hj => by have := hyb j hj; omega) (cv.turned.below hb) (hoy.below hb) hp :
        Calls Try.prog 74 #[.agg #[.int .i64 (gd ds x).field, .int .i64 (gd ds x).pos, .slice (na x) (gd ds x).new.length (nc x), .slice (oa x) (gd ds x).old.length (oc x)], .slice a1 xs.length c1] W' fun e w' => e = .returned (.bool false) ∧ Below W'.heap.size W' w')
      rw [hp] at hsn
      have kk := Lib.hid (fun (W' : World) (hb : Below W.heap.size W W') => (hb.cell (p := ⟨w1.heap.size, 0, none⟩) hOut.lt).trans ko)
      replace hpn := Lib.hid hpn
      replace htu := Lib.hid htu
      replace hsn := Lib.hid hsn
      replace hap := Lib.hid hap
      replace hyl := Lib.hid hyl
      replace hyb := Lib.hid hyb
      have bAl := bAW.lt
      have bBl := bBW.lt
      have cA := bAW.cell 0
      have cB := bBW.cell 0
      have fA := bAW.free 0
      have fB := bBW.free 0
      clear hp cv hcs3 hoy
      gi_wp2
      gi_region_with (first | (refine ⟨trivial, ?_⟩; gi_at_call 76; refine (CallsIn.inRound l (callsIn_wide.2 (htu.out _))).mono ?_; rintro e w5 ⟨rfl, hb5⟩; have hb5' : Below W.heap.size W w5 := bl_trans (bl_drew (Below.refl _ _)) hb5; have ko5 := kk.out _ hb5') | (refine ⟨trivial, ?_⟩; gi_at_call 74; refine (CallsIn.inRound l (callsIn_wide.2 (hpn.out _ hb5'))).mono ?_; rintro e w6 ⟨rfl, hb6⟩))
      all_goals
        have hb6' : Below W.heap.size W w6 := bl_trans hb5' hb6
        have cA6 := (hb6'.cell (p := ⟨w.heap.size, 0, none⟩) bAl).trans cA
        have cB6 := (hb6'.cell (p := ⟨w.heap.size + 1, 0, none⟩) bBl).trans cB
        have fA6 := (hb6'.frozen (p := ⟨w.heap.size, 0, none⟩) bAl).trans fA
        have fB6 := (hb6'.frozen (p := ⟨w.heap.size + 1, 0, none⟩) bBl).trans fB
        have gA := Lib.hid (bAW.below hb6')
        have gB := Lib.hid (bBW.below hb6')
        have gK := Lib.hid (kf_below (N := W3.heap.size) hb6')
        have gO := Lib.hid ((((Only.of_below hw3).trans hon).trans (Only.of_below hb6')).below (N := w.heap.size) (Nat.le_refl _) (fun k h => by omega))
        gi_wp2
        refine ⟨(gK.out.trans ((KeepsOthers.setCell _ _ _).from _)).trans ((KeepsOthers.setCell _ _ _).from _), rfl, hsn.out, (gA.out.set 0 _).set_other (by simp) _, (gB.out.set_other (by simp) _).set 0 _, (gO.out.setCell (p := ⟨w.heap.size, 0, none⟩) (by simp) _).setCell (p := ⟨w.heap.size + 1, 0, none⟩) (by simp) _⟩
    · have hy0 : 0 < xs.length := by
        rcases Nat.eq_zero_or_pos ys.length with h | h
        · obtain rfl := List.length_eq_zero_iff.1 h
          unfold DM.put at hp
          split at hp
          · rename_i hh; simp at hh; omega
          · cases hp
        · omega
      have hpn := fun (W' : World) (hb : Below W.heap.size W W') => (by
        rw [← hyl]
        exact put_some (fun b => W0.heap.size ≤ b) (tn ds x) (na x) (oa x) a1 (nc x) (oc x) c1 ys zs W' (fun b h => Nat.le_trans hb1.size (Nat.le_trans hb3.size (Nat.le_trans hon.size (Nat.le_trans hb.size h)))) (by omega) (fun j hj => by have := hyb j hj; omega) (cv.turned.below hb) (hoy.below hb) hp :
        Calls Try.prog 74 #[.agg #[.int .i64 (gd ds x).field, .int .i64 (gd ds x).pos, .slice (na x) (gd ds x).new.length (nc x), .slice (oa x) (gd ds x).old.length (oc x)], .slice a1 xs.length c1] W' fun e w' => e = .returned (.bool true) ∧ Only (fun k => a1 = some ⟨k, 0, none⟩) W' w' ∧ OutAt (fun b => W0.heap.size ≤ b) true w' a1 zs)
      rw [hp] at hsn
      have hln := Lib.hid (hyb.put hp)
      have cvo := gd_old hds.out x
      have kk := Lib.hid (fun (W' : World) (hb : Below W.heap.size W W') => (hb.cell (p := ⟨w1.heap.size, 0, none⟩) hOut.lt).trans ko)
      replace hpn := Lib.hid hpn
      replace htu := Lib.hid htu
      replace hsn := Lib.hid hsn
      replace hap := Lib.hid hap
      replace hyl := Lib.hid hyl
      replace hyb := Lib.hid hyb
      have hga' : ∀ q, a1 = some ⟨q, 0, none⟩ → w.heap.size + 2 ≤ q ∧ q < w1.heap.size := fun q e => hga q e hy0
      replace hga' := Lib.hid hga'
      clear hp cv hcs3 hoy hga
      gi_wp2
      gi_region_with (first | (refine ⟨trivial, ?_⟩; gi_at_call 76; refine (CallsIn.inRound l (callsIn_wide.2 (htu.out _))).mono ?_; rintro e w5 ⟨rfl, hb5⟩; have hb5' : Below W.heap.size W w5 := bl_trans (bl_drew (Below.refl _ _)) hb5; have ko5 := kk.out _ hb5') | (refine ⟨trivial, ?_⟩; gi_at_call 74; refine (CallsIn.inRound l (callsIn_wide.2 (hpn.out _ hb5'))).mono ?_; rintro e w6 ⟨rfl, ho6, hoz⟩))
      all_goals
        have hoz' := Lib.hid hoz
        have ho6' := Lib.hid (ho6.mono (T := fun k => w.heap.size + 2 ≤ k ∧ k ≠ w1.heap.size ∧ k ≠ w1.heap.size + 1) (fun k e => by have := hga'.out k e; omega))
        have gK := Lib.hid ((kf_below (N := W3.heap.size) hb5').trans (kf_only (N := W3.heap.size) ho6 (fun k hk e => by have := hga'.out k e; omega)))
        clear hoz ho6
        gi_wp2
        refine ⟨gK.out, (Only.of_below hb5').trans ho6'.out, ⟨zs, hsn.out, hln.out.2.trans hyl.out, fun j hj => ?_, hoz'.out⟩, (hon.trans (Only.of_below hb5')).trans ho6'.out⟩
        have := hln.out.1 j hj
        have e2 : (tn ds x).new.length = (gd ds x).old.length := rfl
        rw [e2] at this
        rw [List.length_append, List.length_singleton]
        omega
  case done =>
    rintro D zs W hD rfl ⟨⟨ys, hap, hyl, hyb, hoy⟩, hon⟩ hK
    have hun := (undo_rv ds xs).trans hap
    have ko : W.cell? ⟨w1.heap.size, 0, none⟩ = some (.slice a1 xs.length c1) := (b2.only hon (fun h => h.2.1 rfl)).cell 0
    have bAW : Blk W w.heap.size 69 [.slice none 0 0] := bA3.only hon (fun h => by omega)
    have bBW : Blk W (w.heap.size + 1) 4 [.bool false] := bB3.only hon (fun h => by omega)
    have cA := bAW.cell 0
    have cB := bBW.cell 0
    have fA := bAW.free 0
    have fB := bBW.free 0
    replace hap := Lib.hid hap
    replace hun := Lib.hid hun
    replace hyl := Lib.hid hyl
    replace hoy := Lib.hid hoy
    replace hK := Lib.hid hK
    clear hcs3 hyb
    go_wp2_with fail
    have hK2 : ((W.setCell ⟨w.heap.size, 0, none⟩ (.slice a1 xs.length c1)).setCell ⟨w.heap.size + 1, 0, none⟩ (.bool true)).heap[D]? = some (.deferred (some [])) := by
      rw [Below.heap_setCell _ _ _ _ (show D ≠ w.heap.size + 1 by omega), Below.heap_setCell _ _ _ _ (show D ≠ w.heap.size by omega)]; exact hK.out
    have gA : Blk ((W.setCell ⟨w.heap.size, 0, none⟩ (.slice a1 xs.length c1)).setCell ⟨w.heap.size + 1, 0, none⟩ (.bool true)) w.heap.size 69 [.slice a1 xs.length c1] := (bAW.set 0 _).set_other (by simp) _
    have gB : Blk ((W.setCell ⟨w.heap.size, 0, none⟩ (.slice a1 xs.length c1)).setCell ⟨w.heap.size + 1, 0, none⟩ (.bool true)) (w.heap.size + 1) 4 [.bool true] := (bBW.set_other (by simp) _).set 0 _
    have gO : Below w.heap.size w ((W.setCell ⟨w.heap.size, 0, none⟩ (.slice a1 xs.length c1)).setCell ⟨w.heap.size + 1, 0, none⟩ (.bool true)) := (((((Only.of_below hw3).trans hon).below (N := w.heap.size) (Nat.le_refl _) (fun k h => by omega)).setCell (p := ⟨w.heap.size, 0, none⟩) (by simp) _).setCell (p := ⟨w.heap.size + 1, 0, none⟩) (by simp) _)
    have gT : OutAt (fun b => w.heap.size ≤ b) true ((W.setCell ⟨w.heap.size, 0, none⟩ (.slice a1 xs.length c1)).setCell ⟨w.heap.size + 1, 0, none⟩ (.bool true)) a1 ys := OutAt.mono (K := fun b => W0.heap.size ≤ b) (OutAt.keep (w := W) (w' := (W.setCell ⟨w.heap.size, 0, none⟩ (.slice a1 xs.length c1)).setCell ⟨w.heap.size + 1, 0, none⟩ (.bool true)) hoy.out (by simp [World.setCell]) (fun b hb _ => by
      have := sz0.out
      rw [Below.heap_setCell _ _ _ _ (show b ≠ w.heap.size + 1 by omega), Below.heap_setCell _ _ _ _ (show b ≠ w.heap.size by omega)])) (fun b hb => by have := sz0.out; omega)
    obtain ⟨W5, hW5⟩ : ∃ W5, (W.setCell ⟨w.heap.size, 0, none⟩ (.slice a1 xs.length c1)).setCell ⟨w.heap.size + 1, 0, none⟩ (.bool true) = W5 := ⟨_, rfl⟩
    rw [hW5] at hK2 gA gB gO gT ⊢
    clear hW5 cA cB fA fB ko bAW bBW
    have gA6 : Blk (W5.putObj D (.deferred none)) w.heap.size 69 [.slice a1 xs.length c1] := gA.of_eq (World.putObj_heap_other (by omega))
    have gB6 : Blk (W5.putObj D (.deferred none)) (w.heap.size + 1) 4 [.bool true] := gB.of_eq (World.putObj_heap_other (by omega))
    have gO6 : Below w.heap.size w (W5.putObj D (.deferred none)) := belowK_t gO (belowK_b (w := w) (Nat.le_refl _) W5 D _ _ (by omega) hK2 rfl rfl)
    have gT6 : OutAt (fun b => w.heap.size ≤ b) true (W5.putObj D (.deferred none)) a1 ys := gT.grown (grownBy_putObj' W5 D _) (fun r e => by cases e; exact ⟨_, hK2, rfl⟩)
    refine ⟨by simp, .inl ⟨_, _, rfl, run_takeDeferred hK2, ?_⟩⟩
    have cA := gA6.cell 0
    have cB := gB6.cell 0
    clear hap hK2
    generalize W5.putObj D (.deferred none) = W6 at *
    refine ⟨.tuple #[.slice a1 xs.length c1, .bool true], by simp [results, Try.results48, go_sem, cA, cB], ?_⟩
    exact Applied.yes hun.out hyl.out.symm rfl gT6 gO6
  case stop =>
    rintro D c pre W hD ⟨k, hk, rfl⟩ ⟨rfl, hap, bAW, bBW, hbel⟩ hK
    have hun := undo_none hk hap
    replace hap := Lib.hid hap
    replace hun := Lib.hid hun
    have gA6 : Blk (W.putObj D (.deferred none)) w.heap.size 69 [.slice none 0 0] := bAW.of_eq (World.putObj_heap_other (by omega))
    have gB6 : Blk (W.putObj D (.deferred none)) (w.heap.size + 1) 4 [.bool false] := bBW.of_eq (World.putObj_heap_other (by omega))
    have gO6 : Below w.heap.size w (W.putObj D (.deferred none)) := belowK_t hbel (belowK_b (w := w) (Nat.le_refl _) W D _ _ (by omega) hK rfl rfl)
    replace hK := Lib.hid hK
    clear hcs3
    gi_wp2
    refine ⟨by simp, .inl ⟨_, _, rfl, run_takeDeferred hK.out, ?_⟩⟩
    have cA := gA6.cell 0
    have cB := gB6.cell 0
    clear hap hK
    generalize W.putObj D (.deferred none) = W6 at *
    refine ⟨.tuple #[.slice none 0 0, .bool false], by simp [results, Try.results48, go_sem, cA, cB], ?_⟩
    exact Applied.no hun.out rfl gO6
end Go.Proofs.Ytfbimghnimepjaa
