/-
  Contracts of copied and Apply, of chapter 23.
  Conditions: as each theorem states them.
-/
import Derived.Test.YtfbimghnimepjaaDel6
namespace Go.Proofs.Ytfbimghnimepjaa
open Go.RowKit
set_option linter.unusedVariables false
set_option linter.unusedSimpArgs false
/-- a list of texts while its first k texts are being made anew -/
def MidAt (B k : Nat) (w : World) (g : Nat) (xs : List (List UInt8)) : Prop :=
  B ≤ g ∧ g < w.heap.size ∧ (∀ i, i < xs.length → w.frozen? ⟨g, i, none⟩ = false) ∧ ∀ i (h : i < xs.length), if i < k then TxCell (fun b => B ≤ b ∧ b ≠ g) true w (w.cell? ⟨g, i, none⟩) xs[i] else TxCell (fun b => b < B) false w (w.cell? ⟨g, i, none⟩) xs[i]
theorem MidAt.at {B k : Nat} {w : World} {g : Nat} {xs : List (List UInt8)} (h : MidAt B k w g xs) (hk : k < xs.length) : TxCell (fun b => b < B) false w (w.cell? ⟨g, k, none⟩) xs[k] := by
  have := h.2.2.2 k hk
  rwa [if_neg (by omega)] at this
theorem MidAt.put {B k : Nat} {w w5 : World} {g : Nat} {xs : List (List UInt8)} (h : MidAt B k w g xs) (hB : B ≤ w.heap.size) (hb : Below w.heap.size w w5) (hk : k < xs.length) {a : Option Addr} {c : Nat}
    (h1 : xs[k].length ≤ c) (h2 : c ≤ maxLen) (hx : ByAt (fun b => w.heap.size ≤ b) true w5 a xs[k]) : MidAt B (k + 1) (w5.setCell ⟨g, k, none⟩ (.slice a xs[k].length c)) g xs := by
  obtain ⟨hg, hgl, hf, hc⟩ := h
  have hsz : (w5.setCell ⟨g, k, none⟩ (.slice a xs[k].length c)).heap.size = w5.heap.size := by simp [World.setCell]
  have hoth : ∀ b, b ≠ g → (w5.setCell ⟨g, k, none⟩ (.slice a xs[k].length c)).heap[b]? = w5.heap[b]? := fun b hb' => Below.heap_setCell _ _ _ _ hb'
  have hc0 : ∃ v, w5.cell? ⟨g, k, none⟩ = some v := by
    have := hc k hk
    rw [if_neg (by omega)] at this
    obtain ⟨xa, xc, e, _⟩ := this
    exact ⟨_, (hb.cell (p := ⟨g, k, none⟩) hgl).trans e⟩
  obtain ⟨v0, hc0⟩ := hc0
  refine ⟨hg, by rw [hsz]; exact Nat.lt_of_lt_of_le hgl hb.size, fun i hi => ?_, fun i hi => ?_⟩
  · rw [World.frozen?_setCell]
    exact (hb.frozen (p := ⟨g, i, none⟩) hgl).trans (hf i hi)
  · by_cases hik : i = k
    · subst hik
      rw [if_pos (by omega)]
      refine ⟨a, c, World.cell?_setCell_same _ _ _ hc0, h1, h2, (hx.mono (fun b hb => ⟨by omega, by omega⟩)).keep (by rw [hsz]; exact Nat.le_refl _) (fun b hb _ => hoth b hb.2)⟩
    · have h0 := hc i hi
      have he : (w5.setCell ⟨g, k, none⟩ (.slice a xs[k].length c)).cell? ⟨g, i, none⟩ = w.cell? ⟨g, i, none⟩ := by
        rw [World.cell?_setCell_other _ _ _ _ (by intro e; injection e with _ e; exact hik e.symm)]
        exact hb.cell (p := ⟨g, i, none⟩) hgl
      rw [he]
      by_cases hlt : i < k
      · rw [if_pos hlt] at h0
        rw [if_pos (by omega)]
        exact (h0.keep hb.size (fun b _ l => hb.block b l)).keep (by rw [hsz]; exact Nat.le_refl _) (fun b hb _ => hoth b hb.2)
      · rw [if_neg hlt] at h0
        rw [if_neg (by omega)]
        exact (h0.keep hb.size (fun b _ l => hb.block b l)).keep (by rw [hsz]; exact Nat.le_refl _) (fun b hb _ => hoth b (by omega))
theorem MidAt.out {B k : Nat} {w : World} {g : Nat} {xs : List (List UInt8)} (h : MidAt B k w g xs) (hk : xs.length ≤ k) : OutAt (fun b => B ≤ b) true w (some ⟨g, 0, none⟩) xs := fun _ =>
  ⟨g, rfl, h.1, h.2.1, h.2.2.1, fun i hi => by have := h.2.2.2 i hi; rwa [if_pos (by omega)] at this⟩
theorem MidAt.start {K : Nat → Prop} {w w1 : World} {v : Value} {vs : List Value} {xs : List (List UInt8)} (hv : w1.ownsRow w.heap.size 73 1 v xs.length vs) (hb : Below w.heap.size w w1) (h0 : 0 < xs.length)
    (hx : ∀ i (hi : i < xs.length), TxCell K false w vs[i]? xs[i]) : ∃ g c, v = .slice (some ⟨g, 0, none⟩) xs.length c ∧ MidAt w.heap.size 0 w1 g xs := by
  rcases hv.2 with ⟨_, h⟩ | ⟨g, cap, cur, rfl, hg, hh, hc, hm, hs, ht⟩
  · omega
  · refine ⟨g, cap, rfl, hg, (Array.getElem?_eq_some_iff.1 hh).1, fun i hi => ?_, fun i hi => ?_⟩
    · simp only [World.frozen?]; rw [hh]; simp
    · rw [if_neg (by omega)]
      have e : w1.cell? ⟨g, i, none⟩ = vs[i]? := by
        simp only [World.cell?]
        rw [hh]
        have h1 := congrArg (fun l => l[i]?) ht
        simp only [List.getElem?_take, Nat.mul_one] at h1
        rw [if_pos hi] at h1
        simpa using h1
      rw [e]
      exact ((hx i hi).lt.mono (fun b h => h.2)).keep hb.size (fun b _ l => hb.block b l)
set_option maxHeartbeats 2000000 in
set_option maxRecDepth 100000 in
theorem copied_any (la : Option Addr) (xs : List (List UInt8)) (c : Nat) (w : World) (hn : xs.length ≤ 1000000) (hx : Lens 1000000 xs) (h : TxAt (fun _ => True) false w la xs) :
    Calls Try.prog 73 #[.slice la xs.length c] w fun e w' => ∃ a c', e = .returned (.slice a xs.length c') ∧ OutAt (fun b => w.heap.size ≤ b) true w' a xs ∧ Below w.heap.size w w' := by
  obtain ⟨vs, hv1, hv2, hv3, hv4⟩ := h.vals
  have hcl := Lib.hid (cloneT_any la xs.length c vs w hv1 hn hv2 hv3)
  have hst := Lib.hid (fun (w1 : World) (v : Value) (hv : w1.ownsRow w.heap.size 73 1 v xs.length vs) (hb : Below w.heap.size w w1) (h0 : 0 < xs.length) => MidAt.start hv hb h0 hv4)
  clear hv2 hv3 hv4 h
  replace hv1 := Lib.hid hv1
  replace hx := Lib.hid hx
  go_enter Try.func73, Try.ntmps73
  go_wp2_with fail
  refine hcl.out.mono ?_
  rintro e w1 ⟨v, rfl, hown, hb1⟩
  by_cases h0 : 0 < xs.length
  · obtain ⟨g, c1, rfl, hmid⟩ := hst.out w1 v hown hb1 h0
    clear hown hst hcl hv1
    replace hmid := Lib.hid hmid
    go_wp2_with fail
    go_loopw [9] (fun i wr => ∃ k : Nat, i = .int .i64 (k : Int) ∧ k ≤ xs.length ∧ MidAt w.heap.size k wr g xs ∧ Below w.heap.size w wr) (fun i _ => xs.length - (intOf i).toNat)
    case atStart => exact ⟨0, rfl, by omega, hmid.out, hb1⟩
    case round =>
      obtain ⟨k, rfl, hk, hm, hbr⟩ := hrel
      replace hm := Lib.hid hm
      by_cases h1 : k < xs.length
      · obtain ⟨xa, xc, c2, x1, x2, hB⟩ := hm.out.at h1
        have hg := hm.out.2.1
        have f2 := hm.out.2.2.1 k h1
        have hl := hx.out k h1
        have hcc := Lib.hid (clone_any xa xc xs[k] wr hl hB.any)
        clear hB
        go_wp2_with (go_at_call 72; refine hcc.out.mono ?_; rintro e w2 ⟨v2, rfl, hown2, hb2⟩; obtain ⟨a2, c3, rfl, y1, y2, hB2⟩ := ByAt.of_owns hown2 rfl; have q1 := (hb2.cell (p := ⟨g, k, none⟩) hg).trans c2; have q2 := (hb2.frozen (p := ⟨g, k, none⟩) hg).trans f2; replace hB2 := Lib.hid hB2; clear hown2)
        all_goals go_roundw
        case measure => simp [intOf]; omega
        case rel => exact ⟨k + 1, by go_num, by omega, hm.out.put hbr.size hb2 h1 y1 y2 hB2.out, (bl_trans hbr hb2).setCell hm.out.1 _⟩
      · have hkx : xs.length ≤ k := by omega
        go_wp2_with fail
        all_goals go_ret
        all_goals exact ⟨_, _, rfl, hm.out.out hkx, hbr⟩
  · obtain rfl : xs = [] := List.length_eq_zero_iff.1 (by omega)
    clear h0 hst hcl hv1
    obtain ⟨a1, c1, rfl⟩ : ∃ a1 c1, v = .slice a1 0 c1 := by
      rcases hown.2 with ⟨rfl, _⟩ | ⟨g, cap, cur, rfl, _⟩
      · exact ⟨_, _, rfl⟩
      · exact ⟨_, _, rfl⟩
    clear hown
    go_wp2_with fail
    go_loop [9] (fun i => i = .int .i64 0) (fun _ => 0)
    case atStart => rfl
    case round =>
      subst hrel
      go_wp2_with fail
      all_goals go_ret
      all_goals exact ⟨a1, ⟨c1, rfl⟩, fun h => absurd h (by simp), hb1⟩
/-- how a list of changes is handed on: what Apply's contract says -/
def Applied (xs : Option (List (List UInt8))) (w : World) (e : Ending) (w' : World) : Prop :=
  match xs with
  | none => e = .returned (.tuple #[.slice none 0 0, .bool false]) ∧ Below w.heap.size w w'
  | some ys => ∃ a c, e = .returned (.tuple #[.slice a ys.length c, .bool true]) ∧ OutAt (fun b => w.heap.size ≤ b) true w' a ys ∧ Below w.heap.size w w'
theorem Applied.no {w w' : World} {e : Ending} {xs : Option (List (List UInt8))} (hx : xs = none) (h : e = .returned (.tuple #[.slice none 0 0, .bool false])) (hb : Below w.heap.size w w') : Applied xs w e w' := by subst hx; exact ⟨h, hb⟩
theorem Applied.yes {w w' : World} {e : Ending} {xs : Option (List (List UInt8))} {ys : List (List UInt8)} {n c : Nat} {a : Option Addr} (hx : xs = some ys) (hn : n = ys.length) (h : e = .returned (.tuple #[.slice a n c, .bool true])) (ho : OutAt (fun b => w.heap.size ≤ b) true w' a ys) (hb : Below w.heap.size w w') : Applied xs w e w' := by
  subst hx; subst hn; exact ⟨a, c, h, ho, hb⟩
theorem ChAt.val {w : World} {a : Option Addr} {ds : List DM.Chg} {L : Nat} (h : ChAt (fun _ => True) w a ds) {i : Nat} (hi : i < ds.length) (hl : ds[i].old.length ≤ 100000 ∧ ds[i].new.length ≤ 100000) :
    ∃ b o oa oc na nc, a = some ⟨b, o, none⟩ ∧ b < w.heap.size ∧ w.cell? ⟨b, o + i * 4, none⟩ = some (.int .i64 ds[i].field) ∧ w.cell? ⟨b, o + i * 4 + 1, none⟩ = some (.int .i64 ds[i].pos) ∧
      w.cell? ⟨b, o + i * 4 + 2, none⟩ = some (.slice oa ds[i].old.length oc) ∧ w.cell? ⟨b, o + i * 4 + 3, none⟩ = some (.slice na ds[i].new.length nc) ∧ ChVal w ds[i] oa oc na nc := by
  obtain ⟨b, o, oa, oc, na, nc, e, k, l, c1, c2, c3, c4, h3, h3', h4, h4', b3, b4⟩ := h.nth hi
  exact ⟨b, o, oa, oc, na, nc, e, l, c1, c2, c3, c4, hl.1, h3, h3', hl.2, h4, h4', b3.any, b4.any⟩
theorem ChVal.below {w w' : World} {c : DM.Chg} {oa na : Option Addr} {oc nc : Nat} (h : ChVal w c oa oc na nc) (hb : Below w.heap.size w w') : ChVal w' c oa oc na nc := ⟨h.o1, h.o2, h.o3, h.n1, h.n2, h.n3, h.old.below hb, h.new.below hb⟩
/-- after the first k changes -/
def After (ds : List DM.Chg) (k : Nat) (xs ys : List (List UInt8)) : Prop := DM.apply (ds.take k) xs = some ys
theorem After.zero (ds : List DM.Chg) (xs : List (List UInt8)) : After ds 0 xs xs := rfl
theorem After.succ {ds : List DM.Chg} {k : Nat} {xs ys zs : List (List UInt8)} (h : After ds k xs ys) (hk : k < ds.length) (hp : DM.put ys ds[k] = some zs) : After ds (k + 1) xs zs := by
  unfold After at h ⊢
  rw [List.take_succ_eq_append_getElem hk, DM.apply_append, h]
  simp [DM.apply, hp]
theorem After.fail {ds : List DM.Chg} {k : Nat} {xs ys : List (List UInt8)} (h : After ds k xs ys) (hk : k < ds.length) (hp : DM.put ys ds[k] = none) : DM.apply ds xs = none := by
  unfold After at h
  rw [show ds = ds.take k ++ ds[k] :: ds.drop (k + 1) by rw [← List.drop_eq_getElem_cons hk, List.take_append_drop], DM.apply_append, h]
  simp [DM.apply, hp]
theorem After.all {ds : List DM.Chg} {k : Nat} {xs ys : List (List UInt8)} (h : After ds k xs ys) (hk : ds.length ≤ k) : DM.apply ds xs = some ys := by
  unfold After at h; rwa [List.take_of_length_le hk] at h
set_option maxHeartbeats 2000000 in
set_option maxRecDepth 100000 in
theorem apply_any (da la : Option Addr) (ds : List DM.Chg) (xs : List (List UInt8)) (dc lc : Nat) (w : World) (hd : ds.length ≤ 20) (hds : ∀ i (h : i < ds.length), ds[i].old.length ≤ 5000 ∧ ds[i].new.length ≤ 200) (hn : xs.length ≤ 20) (hx : Lens 10000 xs)
    (h1 : ChAt (fun _ => True) w da ds) (h2 : TxAt (fun _ => True) false w la xs) :
    Calls Try.prog 47 #[.slice da ds.length dc, .slice la xs.length lc] w (Applied (DM.apply ds xs) w) := by
  have hcp := Lib.hid (copied_any la xs lc w (by omega) (fun j hj => by have := hx j hj; omega) h2)
  clear h2
  replace h1 := Lib.hid h1
  replace hds := Lib.hid hds
  go_enter Try.func47, Try.ntmps47
  go_wp2_with fail
  refine hcp.out.mono ?_
  rintro e w1 ⟨a1, c1, rfl, ho1, hb1⟩
  replace ho1 := Lib.hid ho1
  clear hcp
  go_wp2_with fail
  go_loopw [13] (fun i wr => ∃ (k : Nat) (ys : List (List UInt8)), i = .int .i64 (k : Int) ∧ k ≤ ds.length ∧ After ds k xs ys ∧ ys.length = xs.length ∧ Lens (10000 + 200 * k) ys ∧ OutAt (fun b => w.heap.size ≤ b) true wr a1 ys ∧ Below w.heap.size w wr) (fun i _ => ds.length - (intOf i).toNat)
  case atStart => exact ⟨0, xs, rfl, by omega, After.zero _ _, rfl, hx, ho1.out, hb1⟩
  case round =>
    obtain ⟨k, ys, rfl, hk, haf, hyl, hyb, hoy, hbr⟩ := hrel
    replace haf := Lib.hid haf
    replace hyb := Lib.hid hyb
    replace hoy := Lib.hid hoy
    replace hyl := Lib.hid hyl
    by_cases h0 : k < ds.length
    · have hlk := hds.out k h0
      obtain ⟨b, o, oa, oc, na, nc, rfl, hbl, k1, k2, k3, k4, hcv⟩ := (h1.out.below hbr).val (L := 0) h0 (by omega)
      have hbx : Below wr.heap.size wr (wr.alloc (.cells #[.int .i64 ds[k].field, .int .i64 ds[k].pos, .slice oa ds[k].old.length oc, .slice na ds[k].new.length nc] 116)) := bl_alloc (Below.refl _ _) _
      rcases hp : DM.put ys ds[k] with _ | zs
      · have hpn := put_none (fun b => w.heap.size ≤ b) ds[k] oa na a1 oc nc c1 ys _ (by rw [hyl.out]; omega) (fun j hj => by have := hyb.out j hj; omega) (hcv.below hbx) (hoy.out.below hbx) hp
        rw [hyl.out] at hpn
        have hfin := haf.out.fail h0 hp
        replace hpn := Lib.hid hpn
        replace hfin := Lib.hid hfin
        clear hp hcv
        go_wp2_with (go_at_call 74; refine hpn.out.mono ?_; rintro e w5 ⟨rfl, hb5⟩)
        all_goals go_ret2
        all_goals exact Applied.no hfin.out rfl (bl_trans hbr (bl_trans hbx hb5))
      · have hpn := put_some (fun b => w.heap.size ≤ b) ds[k] oa na a1 oc nc c1 ys zs _ (fun b hb => Nat.le_trans hbr.size (Nat.le_trans hbx.size hb)) (by rw [hyl.out]; omega) (fun j hj => by have := hyb.out j hj; omega) (hcv.below hbx) (hoy.out.below hbx) hp
        rw [hyl.out] at hpn
        have hln := hyb.out.put hp
        have hfin := haf.out.succ h0 hp
        replace hpn := Lib.hid hpn
        replace hfin := Lib.hid hfin
        replace hln := Lib.hid hln
        have hga : ∀ q, a1 = some ⟨q, 0, none⟩ → 0 < ys.length → w.heap.size ≤ q := fun q e h => by
          obtain ⟨g, e2, hg, _⟩ := hoy.out h
          rw [e2] at e; injection e with e; injection e with e; omega
        have hy0 : 0 < ys.length := by
          rcases Nat.eq_zero_or_pos ys.length with h | h
          · obtain rfl := List.length_eq_zero_iff.1 h
            unfold DM.put at hp
            split at hp
            · rename_i hh; simp at hh; omega
            · cases hp
          · exact h
        replace hga := Lib.hid hga
        replace hy0 := Lib.hid hy0
        clear hp hcv
        go_wp2_with (go_at_call 74; refine hpn.out.mono ?_; rintro e w5 ⟨rfl, ho5, hoz⟩)
        all_goals go_roundw
        case measure => simp [intOf]; omega
        case rel => exact ⟨k + 1, zs, by go_num, by omega, hfin.out, hln.out.2.trans hyl.out, fun j hj => by have := hln.out.1 j hj; omega, hoz, (bl_trans hbr hbx).trans (ho5.below (Nat.le_trans hbr.size hbx.size) (fun q e => hga.out q e hy0.out))⟩
    · have hkx : ds.length ≤ k := by omega
      have hfin := haf.out.all hkx
      replace hfin := Lib.hid hfin
      go_wp2_with fail
      all_goals go_ret2
      all_goals exact Applied.yes hfin.out hyl.out.symm rfl hoy.out hbr
end Go.Proofs.Ytfbimghnimepjaa
