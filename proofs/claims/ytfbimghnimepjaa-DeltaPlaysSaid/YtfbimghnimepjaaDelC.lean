/-
  Contracts of the reference's Apply and Undo, of chapter 23.
  Conditions: as each theorem states them.
-/
import Derived.Test.YtfbimghnimepjaaDel9
import Derived.Test.YtfbimghnimepjaaDelV
import Derived.StillTailTactics
namespace Go.Proofs.Ytfbimghnimepjaa
open Go.RowKit
set_option linter.unusedVariables false
set_option linter.unusedSimpArgs false
/-- what Apply's reference says of its memory -/
def RApplied (xs : Option (List (List UInt8))) (w : World) (e : Ending) (w' : World) : Prop :=
  match xs with
  | none => e = .returned (.tuple #[.slice none 0 0, .bool false]) ∧ Below w.heap.size w w'
  | some ys => ∃ a c, e = .returned (.tuple #[.slice a ys.length c, .bool true]) ∧ TxAt (fun _ => True) false w' a ys ∧ Below w.heap.size w w'
theorem RApplied.no {w w' : World} {e : Ending} {xs : Option (List (List UInt8))} (hx : xs = none) (h : e = .returned (.tuple #[.slice none 0 0, .bool false])) (hb : Below w.heap.size w w') : RApplied xs w e w' := by subst hx; exact ⟨h, hb⟩
theorem RApplied.yes {w w' : World} {e : Ending} {xs : Option (List (List UInt8))} {ys : List (List UInt8)} {n c : Nat} {a : Option Addr} (hx : xs = some ys) (hn : n = ys.length) (h : e = .returned (.tuple #[.slice a n c, .bool true])) (ho : TxAt (fun _ => True) false w' a ys) (hb : Below w.heap.size w w') : RApplied xs w e w' := by
  subst hx; subst hn; exact ⟨a, c, h, ho, hb⟩
theorem outStart {w w1 : World} {v : Value} {vs : List Value} {xs : List (List UInt8)} (hv : w1.ownsRow w.heap.size 73 1 v xs.length vs) (hb : Below w.heap.size w w1)
    (hx : ∀ i (hi : i < xs.length), TxCell (fun _ => True) false w vs[i]? xs[i]) : ∃ a c, v = .slice a xs.length c ∧ OutAt (fun _ => True) false w1 a xs ∧ ∀ q, a = some ⟨q, 0, none⟩ → w.heap.size ≤ q := by
  by_cases h0 : 0 < xs.length
  · obtain ⟨g, c, rfl, h1, h2, h3, h4⟩ := MidAt.start hv hb h0 hx
    refine ⟨_, _, rfl, fun _ => ⟨g, rfl, trivial, h2, h3, fun i hi => ?_⟩, fun q e => ?_⟩
    · have := h4 i hi
      rw [if_neg (by omega)] at this
      exact this.mono (fun b hb => ⟨trivial, by omega⟩)
    · injection e with e; injection e with e; omega
  · obtain rfl : xs = [] := List.length_eq_zero_iff.1 (by omega)
    rcases hv.2 with ⟨rfl, _⟩ | ⟨g, cap, cur, rfl, hg, _⟩
    · exact ⟨_, _, rfl, fun h => by simp at h, fun q e => by cases e⟩
    · exact ⟨_, _, rfl, fun h => by simp at h, fun q e => by injection e with e; injection e with e; omega⟩
theorem rv_get {ds : List DM.Chg} {k : Nat} (hk : k < ds.length) : ∃ h : k < (ds.reverse.map DM.Chg.turned).length, (ds.reverse.map DM.Chg.turned)[k] = (ds[ds.length - 1 - k]'(by omega)).turned :=
  ⟨by simpa using hk, by rw [List.getElem_map, List.getElem_reverse]⟩
set_option maxHeartbeats 4000000 in
set_option maxRecDepth 100000 in
theorem rapply_any (da la : Option Addr) (ds : List DM.Chg) (xs : List (List UInt8)) (dc lc : Nat) (w : World) (hd : ds.length ≤ 20) (hds : ∀ i (h : i < ds.length), ds[i].old.length ≤ 200 ∧ ds[i].new.length ≤ 200) (hn : xs.length ≤ 20) (hx : Lens 10000 xs)
    (h1 : ChAt (fun _ => True) w da ds) (h2 : TxAt (fun _ => True) false w la xs) :
    Calls Try.prog 52 #[.slice da ds.length dc, .slice la xs.length lc] w (RApplied (DM.apply ds xs) w) := by
  obtain ⟨i0, hi, hz0, hz1, hz2⟩ := info_parts info73_
  obtain ⟨vs, hv1, hv2, hv3, hv4⟩ := h2.vals
  have ho := World.ownsRow_lit (base := w.heap.size) (e := 73) (size := 1) w #[] 0 (Nat.le_refl _) (by decide) rfl
  have hs' := hv2.below (bl_alloc (Below.refl _ _) (.cells #[] 73))
  have hst := Lib.hid (fun (w1 : World) (v : Value) (hv : w1.ownsRow w.heap.size 73 1 v xs.length vs) (hb : Below w.heap.size w w1) => outStart hv hb hv4)
  clear hv2 h2 hv4
  replace ho := Lib.hid ho
  replace hs' := Lib.hid hs'
  replace hv1 := Lib.hid hv1
  replace hv3 := Lib.hid hv3
  replace h1 := Lib.hid h1
  replace hds := Lib.hid hds
  replace hx := Lib.hid hx
  go_enter Try.func52, Try.ntmps52
  go_wp2_with (at_builtin; refine wpList_append_vs rfl (.tmp 8) (.tmp 9) 69 rfl w.heap.size 73 i0 (.slice none 0 0) 24 Try.underlying69 hi hz0 hz1 hz2 rfl _ _ _ rfl ho.out la xs.length lc vs hv1.out rfl hs'.out hv3.out (by unfold maxLen; omega) (by omega) (by simp) ?_; intro v1 w1 hown1 hgrow1; have hb1 := (bl_alloc (Below.refl w.heap.size w) (.cells #[] 73)).grown hgrow1 (by simp) (fun j hj => (ho.out.lt j hj).1); rw [Nat.zero_add, List.nil_append] at hown1; obtain ⟨a1, c1, rfl, ho1, hga⟩ := hst.out _ _ hown1 hb1; clear hown1 hgrow1; replace ho1 := Lib.hid ho1; replace hga := Lib.hid hga)
  go_loopw [7] (fun i wr => ∃ (k : Nat) (ys : List (List UInt8)), i = .int .i64 (k : Int) ∧ k ≤ ds.length ∧ After ds k xs ys ∧ ys.length = xs.length ∧ Lens (10000 + 200 * k) ys ∧ OutAt (fun _ => True) false wr a1 ys ∧ Below w.heap.size w wr) (fun i _ => ds.length - (intOf i).toNat)
  case atStart => exact ⟨0, xs, rfl, by omega, After.zero _ _, rfl, hx.out, ho1.out, hb1⟩
  case round =>
    obtain ⟨k, ys, rfl, hk, haf, hyl, hyb, hoy, hbr⟩ := hrel
    replace haf := Lib.hid haf
    replace hyb := Lib.hid hyb
    replace hoy := Lib.hid hoy
    replace hyl := Lib.hid hyl
    by_cases h0 : k < ds.length
    · have hjl := h0
      have hlk := hds.out k hjl
      obtain ⟨b, o, oa, oc, na, nc, rfl, hbl, k1, k2, k3, k4, hcv⟩ := (h1.out.below hbr).val (L := 0) hjl (by omega)
      have hbx : Below wr.heap.size wr wr.drew := bl_drew (Below.refl _ _)
      rcases hp : DM.put ys ds[k] with _ | zs
      · have hpn := rput_none (fun _ => True) false ds[k] oa na a1 oc nc c1 ys wr.drew (by rw [hyl.out]; omega) (fun j hj => by have := hyb.out j hj; omega) ((hcv).below hbx) (hoy.out.below hbx) hp
        rw [hyl.out] at hpn
        have hfin := haf.out.fail h0 hp
        replace hpn := Lib.hid hpn
        replace hfin := Lib.hid hfin
        clear hp hcv
        go_wp2_with fail
        go_still_tail 21, (by kernel_rfl)
        change wpList _ _ _ _ _ wr.drew
        go_wp2_with (go_at_call 78; refine hpn.out.mono ?_; rintro e w5 ⟨rfl, hb5⟩)
        all_goals go_ret2
        all_goals exact RApplied.no hfin.out rfl (bl_trans hbr (bl_trans hbx hb5))
      · have hpn := rput_some ds[k] oa na a1 oc nc c1 ys zs wr.drew (by rw [hyl.out]; omega) (fun j hj => by have := hyb.out j hj; omega) ((hcv).below hbx) (hoy.out.below hbx) hp
        rw [hyl.out] at hpn
        have hln := hyb.out.put hp
        have hfin := haf.out.succ h0 hp
        replace hpn := Lib.hid hpn
        replace hfin := Lib.hid hfin
        replace hln := Lib.hid hln
        clear hp hcv
        go_wp2_with fail
        go_still_tail 21, (by kernel_rfl)
        change wpList _ _ _ _ _ wr.drew
        go_wp2_with (go_at_call 78; refine hpn.out.mono ?_; rintro e w5 ⟨rfl, ho5, hoz⟩)
        all_goals go_roundw
        case measure => simp [intOf]; omega
        case rel => exact ⟨k + 1, zs, by go_num, by omega, hfin.out, hln.out.2.trans hyl.out, fun j hj => by have := hln.out.1 j hj; omega, hoz, (bl_trans hbr hbx).trans (ho5.below (Nat.le_trans hbr.size hbx.size) (fun q e => hga.out q e))⟩
    · have hkx : ds.length ≤ k := by omega
      have hfin := haf.out.all (by exact hkx)
      replace hfin := Lib.hid hfin
      go_wp2_with fail
      all_goals go_ret2
      all_goals exact RApplied.yes hfin.out hyl.out.symm rfl hoy.out.tx hbr
set_option maxHeartbeats 4000000 in
set_option maxRecDepth 100000 in
theorem rundo_any (da la : Option Addr) (ds : List DM.Chg) (xs : List (List UInt8)) (dc lc : Nat) (w : World) (hd : ds.length ≤ 20) (hds : ∀ i (h : i < ds.length), ds[i].old.length ≤ 200 ∧ ds[i].new.length ≤ 200) (hn : xs.length ≤ 20) (hx : Lens 10000 xs)
    (h1 : ChAt (fun _ => True) w da ds) (h2 : TxAt (fun _ => True) false w la xs) :
    Calls Try.prog 53 #[.slice da ds.length dc, .slice la xs.length lc] w (RApplied (DM.undo ds xs) w) := by
  obtain ⟨i0, hi, hz0, hz1, hz2⟩ := info_parts info73_
  obtain ⟨vs, hv1, hv2, hv3, hv4⟩ := h2.vals
  have ho := World.ownsRow_lit (base := w.heap.size) (e := 73) (size := 1) w #[] 0 (Nat.le_refl _) (by decide) rfl
  have hs' := hv2.below (bl_alloc (Below.refl _ _) (.cells #[] 73))
  have hst := Lib.hid (fun (w1 : World) (v : Value) (hv : w1.ownsRow w.heap.size 73 1 v xs.length vs) (hb : Below w.heap.size w w1) => outStart hv hb hv4)
  have hlen : (ds.reverse.map DM.Chg.turned).length = ds.length := by simp
  have hget := Lib.hid (fun (k : Nat) (hk : k < ds.length) => rv_get hk)
  show Calls Try.prog _ _ w (RApplied (DM.apply (ds.reverse.map DM.Chg.turned) xs) w)
  generalize ds.reverse.map DM.Chg.turned = es at *
  replace hlen := Lib.hid hlen
  clear hv2 h2 hv4
  replace ho := Lib.hid ho
  replace hs' := Lib.hid hs'
  replace hv1 := Lib.hid hv1
  replace hv3 := Lib.hid hv3
  replace h1 := Lib.hid h1
  replace hds := Lib.hid hds
  replace hx := Lib.hid hx
  go_enter Try.func53, Try.ntmps53
  go_wp2_with (at_builtin; refine wpList_append_vs rfl (.tmp 8) (.tmp 9) 69 rfl w.heap.size 73 i0 (.slice none 0 0) 24 Try.underlying69 hi hz0 hz1 hz2 rfl _ _ _ rfl ho.out la xs.length lc vs hv1.out rfl hs'.out hv3.out (by unfold maxLen; omega) (by omega) (by simp) ?_; intro v1 w1 hown1 hgrow1; have hb1 := (bl_alloc (Below.refl w.heap.size w) (.cells #[] 73)).grown hgrow1 (by simp) (fun j hj => (ho.out.lt j hj).1); rw [Nat.zero_add, List.nil_append] at hown1; obtain ⟨a1, c1, rfl, ho1, hga⟩ := hst.out _ _ hown1 hb1; clear hown1 hgrow1; replace ho1 := Lib.hid ho1; replace hga := Lib.hid hga)
  go_loopw [7] (fun i wr => ∃ (k : Nat) (ys : List (List UInt8)), i = .int .i64 ((ds.length : Int) - 1 - (k : Int)) ∧ k ≤ ds.length ∧ After es k xs ys ∧ ys.length = xs.length ∧ Lens (10000 + 200 * k) ys ∧ OutAt (fun _ => True) false wr a1 ys ∧ Below w.heap.size w wr) (fun i _ => (intOf i + 1).toNat)
  case atStart => exact ⟨0, xs, by simp, by omega, After.zero _ _, rfl, hx.out, ho1.out, hb1⟩
  case round =>
    obtain ⟨k, ys, rfl, hk, haf, hyl, hyb, hoy, hbr⟩ := hrel
    replace haf := Lib.hid haf
    replace hyb := Lib.hid hyb
    replace hoy := Lib.hid hoy
    replace hyl := Lib.hid hyl
    by_cases h0 : k < ds.length
    · obtain ⟨j, hj⟩ : ∃ j : Nat, j = ds.length - 1 - k := ⟨_, rfl⟩
      have e0 : (ds.length : Int) - 1 - (k : Int) = (j : Int) := by omega
      rw [e0]
      have hjl : j < ds.length := by omega
      have hjI : (0 : Int) ≤ j := by omega
      obtain ⟨hke, hge⟩ := hget.out k h0
      have hge' : es[k] = ds[j].turned := by rw [hge]; congr 2; exact hj.symm
      clear hge e0
      replace hj := Lib.hid hj
      have hlk := hds.out j hjl
      obtain ⟨b, o, oa, oc, na, nc, rfl, hbl, k1, k2, k3, k4, hcv⟩ := (h1.out.below hbr).val (L := 0) hjl (by omega)
      have hbx : Below wr.heap.size wr wr.drew := bl_drew (Below.refl _ _)
      rcases hp : DM.put ys ds[j].turned with _ | zs
      · have hpn := rput_none (fun _ => True) false ds[j].turned na oa a1 nc oc c1 ys wr.drew (by rw [hyl.out]; omega) (fun j hj => by have := hyb.out j hj; omega) ((hcv.turned).below hbx) (hoy.out.below hbx) hp
        rw [hyl.out] at hpn
        have hfin := haf.out.fail hke (by rw [hge']; exact hp)
        replace hpn := Lib.hid hpn
        replace hfin := Lib.hid hfin
        clear hp hcv
        go_wp2_with fail
        go_still_tail 21, (by kernel_rfl)
        change wpList _ _ _ _ _ wr.drew
        go_wp2_with (go_at_call 78; refine hpn.out.mono ?_; rintro e w5 ⟨rfl, hb5⟩)
        all_goals go_ret2
        all_goals exact RApplied.no hfin.out rfl (bl_trans hbr (bl_trans hbx hb5))
      · have hpn := rput_some ds[j].turned na oa a1 nc oc c1 ys zs wr.drew (by rw [hyl.out]; omega) (fun j hj => by have := hyb.out j hj; omega) ((hcv.turned).below hbx) (hoy.out.below hbx) hp
        rw [hyl.out] at hpn
        have hln := hyb.out.put hp
        have hfin := haf.out.succ hke (by rw [hge']; exact hp)
        replace hpn := Lib.hid hpn
        replace hfin := Lib.hid hfin
        replace hln := Lib.hid hln
        clear hp hcv
        go_wp2_with fail
        go_still_tail 21, (by kernel_rfl)
        change wpList _ _ _ _ _ wr.drew
        go_wp2_with (go_at_call 78; refine hpn.out.mono ?_; rintro e w5 ⟨rfl, ho5, hoz⟩)
        all_goals go_roundw
        case measure => simp [intOf]
        case rel => exact ⟨k + 1, zs, by have := hj.out; exact congrArg (Value.int .i64) (by omega), by omega, hfin.out, hln.out.2.trans hyl.out, fun j hj => by have := hln.out.1 j hj; simp only [DM.Chg.turned] at this; omega, hoz, (bl_trans hbr hbx).trans (ho5.below (Nat.le_trans hbr.size hbx.size) (fun q e => hga.out q e))⟩
    · have hkx : ds.length ≤ k := by omega
      have hfin := haf.out.all (by rw [hlen.out]; exact hkx)
      replace hfin := Lib.hid hfin
      have e0 : (ds.length : Int) - 1 - (k : Int) = -1 := by omega
      rw [e0]
      clear e0
      go_wp2_with fail
      all_goals go_ret2
      all_goals exact RApplied.yes hfin.out hyl.out.symm rfl hoy.out.tx hbr
end Go.Proofs.Ytfbimghnimepjaa
