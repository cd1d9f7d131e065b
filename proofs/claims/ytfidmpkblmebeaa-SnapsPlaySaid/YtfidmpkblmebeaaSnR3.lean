/-
  The reference's Offer: the walk; of chapter 25.
  Conditions: as each theorem states them.
-/
import Derived.Test.YtfidmpkblmebeaaSnR2
namespace Go.Proofs.Ytfidmpkblmebeaa
open Go.RowKit
set_option linter.unusedVariables false
set_option linter.unusedSimpArgs false
attribute [local go_sem ↓] load_st store_st load_sn build_sn slice_sn
def ROfferIs (w : World) (xb base : Nat) (period : Int) (L : List (Int × StC)) (n : Int) (V : StV) (e : Ending) (w' : World) : Prop :=
  (offerNo period L n = true ∧ e = .returned (.bool false) ∧ Below w.heap.size w w') ∨
  (offerNo period L n = false ∧ e = .returned (.bool true) ∧ ∃ s', SIn w.heap.size w'.heap.size s' V w' ∧ RefAt w' xb w.heap.size period (SM.put n s' L) ∧ Only (fun i => i = xb) w w')
theorem ROfferIs.no {w X : World} {xb base : Nat} {period : Int} {L : List (Int × StC)} {n : Int} {V : StV} (h : offerNo period L n = true) (hb : Below w.heap.size w X) : ROfferIs w xb base period L n V (.returned (.bool false)) X := .inl ⟨h, rfl, hb⟩
theorem ROfferIs.yes {w W1 X : World} {xb base : Nat} {period : Int} {L : List (Int × StC)} {k : Int} {V : StV} (hb0 : Below w.heap.size w W1) (hxl : xb < base) (hbs : base ≤ w.heap.size) (h : offerNo period L k = false) {s' : StC} {a : Option Addr} {c n5 m5 : Nat} {v : Value} {l : List (Int × StC)} (hl : l = SM.put k s' L) (hb : Below W1.heap.size W1 X) (hB : Blk X xb 31 [.int .i64 period, v])
    (hro : X.ownsRow W1.heap.size 54 28 (.slice a l.length c) l.length (rowsR l)) (h5 : W1.heap.size ≤ n5) (hs : SIn n5 m5 s' V X) :
    ROfferIs w xb base period L k V (.returned (.bool true)) (X.setCell ⟨xb, 1, none⟩ (.slice a l.length c)) := by
  have h01 := hb0.size
  have hO : Only (fun i => i = xb) X (X.setCell ⟨xb, 1, none⟩ (.slice a l.length c)) := (Only.refl (fun i => i = xb) X).setCell (p := ⟨xb, 1, none⟩) rfl _
  subst hl
  refine .inr ⟨h, rfl, s', ?_, ⟨by omega, a, c, hB.set 1 _, own_only (own_low hro (by omega)) hO (fun b h1 _ h2 => by have h2' : b = xb := h2; omega)⟩, ((Only.of_below hb0).trans (Only.of_below hb)).trans hO⟩
  have ht := hs.top
  exact (hs.keep (KeepI.only hO hs.top (fun i h1 h2 h3 => by have h3' : i = xb := h3; omega))).wide (by omega) (by simpa using ht) (Nat.le_refl _)
theorem has_hit {L : List (Int × StC)} {n : Int} {i : Nat} (hi : i < L.length) (h : (L[i]).1 = n) : SM.has L n = true := by
  unfold SM.has
  exact List.any_eq_true.2 ⟨L[i], List.getElem_mem hi, by simpa using h⟩
theorem has_miss {L : List (Int × StC)} {n : Int} (h : ∀ p ∈ L, p.1 ≠ n) : SM.has L n = false := by
  unfold SM.has
  exact List.any_eq_false.2 fun p hp => by simpa using h p hp
theorem row_step {W1 w : World} {l : List (Int × StC)} {x : Int × StC} {a : Option Addr} {c n5 m5 : Nat} {s' : StC} {V : StV} (hb : Below W1.heap.size W1 w) (hs : W1.heap.size ≤ w.heap.size) (hro : w.ownsRow W1.heap.size 54 28 (.slice a l.length c) l.length (rowsR l))
    (hs5 : SIn n5 m5 s' V w) (ho : ∀ b, (Value.slice a l.length c).ownBlock = some b → b < n5 ∨ m5 ≤ b) (v2 : Value) (w2 : World) (ho2 : w2.ownsRow W1.heap.size 54 28 v2 (l.length + 1) (rowsR l ++ rowR x)) (hg : (w.alloc (.cells (rowR x).toArray 54)).grownBy w2 (Value.slice a l.length c).ownBlock)
    (hv : v2.ownBlock = (Value.slice a l.length c).ownBlock ∨ v2.ownBlock = some (w.alloc (.cells (rowR x).toArray 54)).heap.size) :
    (∃ a2 c2, v2 = .slice a2 (l ++ [x]).length c2 ∧ w2.ownsRow W1.heap.size 54 28 (.slice a2 (l ++ [x]).length c2) (l ++ [x]).length (rowsR (l ++ [x]))) ∧ Below W1.heap.size W1 w2 ∧ W1.heap.size ≤ w2.heap.size ∧ SIn n5 m5 s' V w2 ∧ ∀ b, v2.ownBlock = some b → b < n5 ∨ m5 ≤ b := by
  obtain ⟨h1, h2, h3, h4, h5⟩ := row_grown hb hs hro ho2 hg hv
  obtain ⟨h6, h7⟩ := ins_one hs5 ho h4 h5
  exact ⟨h1, h2, h3, h6, h7⟩
set_option maxHeartbeats 8000000 in
set_option maxRecDepth 100000 in
theorem roffer_any {w : World} {xb base : Nat} {period : Int} {L : List (Int × StC)} (hX : RefAt w xb base period L) (hl : L.length ≤ 100000) (hbs : base ≤ w.heap.size) (hper : 1 ≤ period ∧ period ≤ 1000) (k : Int) (s : StC) (V : StV)
    (hc : ∀ X, Below w.heap.size w X → Calls Try.prog 8 #[.agg s.cells.toArray] X fun e w' => ∃ s' : StC, e = .returned (.agg s'.cells.toArray) ∧ SIn X.heap.size w'.heap.size s' V w' ∧ Below X.heap.size X w') :
    Calls Try.prog 10 #[.pointer (some ⟨xb, 0, none⟩), .int .i64 k, .agg s.cells.toArray] w (ROfferIs w xb base period L k V) := by
  have hb0 : Below w.heap.size w (w.alloc (.cells s.cells.toArray 43)) := bl_alloc (Below.refl _ _) _
  have hsz : s.cells.toArray.size = 27 := by simp [StC.len]
  have hBox := Blk.new w 43 s.cells
  obtain ⟨W1, hW1⟩ : ∃ W1, w.alloc (.cells s.cells.toArray 43) = W1 := ⟨_, rfl⟩
  rw [hW1] at hBox hb0
  obtain ⟨a, c, hB, hO⟩ := (hX.below hb0).ex
  have hxl := hX.low
  have hz : (period == 0) = false := by simp; omega
  have hw1 : base ≤ W1.heap.size := Nat.le_trans hbs hb0.size
  have hw1' := hb0.size
  obtain ⟨bx, hbx⟩ : ∃ bx, w.heap.size = bx := ⟨_, rfl⟩
  rw [hbx] at hBox
  have hfacts := Lib.hid (fun X (hb : Below W1.heap.size W1 X) => (⟨(hB.below hb).cell 0, (hB.below hb).cell 1, (hB.below hb).free 1, (hB.below hb).lt, fun i hi => row_at (own_below hO hb) (i := i) hi, hB.below hb, stLoad_is s (hBox.below hb)⟩ : X.cell? ⟨xb, 0, none⟩ = some (.int .i64 period) ∧ X.cell? ⟨xb, 1, none⟩ = some (.slice a L.length c) ∧ X.frozen? ⟨xb, 1, none⟩ = false ∧ xb < X.heap.size ∧ (∀ i < L.length, _) ∧ Blk X xb 31 [.int .i64 period, .slice a L.length c] ∧ (stLoad ⟨bx, 0, none⟩).run Try.prog X = .ok (.agg s.cells.toArray) X))
  have hcp := Lib.hid (fun X (hb : Below W1.heap.size W1 X) => hc X (bl_trans hb0 hb))
  have hno := fun (h : offerNo period L k = true) X (hb : Below W1.heap.size W1 X) => ROfferIs.no (xb := xb) (base := base) (V := V) h (bl_trans hb0 hb)
  have hyes := Lib.hid (fun (h : offerNo period L k = false) s' a c n5 m5 X l v => ROfferIs.yes (X := X) (v := v) (l := l) (s' := s') (a := a) (c := c) (n5 := n5) (m5 := m5) (V := V) hb0 hxl hbs h)
  obtain ⟨i0, hi0, hz0, hz1, hz2⟩ := info_sn
  have hnil : W1.ownsRow W1.heap.size 54 28 (.slice none 0 0) 0 (rowsR []) := World.ownsRow_nil _ _ _ _
  have F1 := hfacts.out W1 (Below.refl _ _)
  obtain ⟨x0, x1, x1f, xl, -, -, -⟩ := F1
  obtain ⟨m, hm⟩ : ∃ m, L.length = m := ⟨_, rfl⟩
  rw [hm] at hl x1
  replace hm := Lib.hid hm
  obtain ⟨C, hC⟩ : ∃ C, s.cells.toArray = C := ⟨_, rfl⟩
  rw [hC] at hW1 hsz hcp hfacts ⊢
  replace hC := Lib.hid hC
  replace hW1 := Lib.hid hW1
  replace hnil := Lib.hid hnil
  replace hno := Lib.hid hno
  rw [hbx] at hw1'
  replace hbx := Lib.hid hbx
  clear hX hB hO hb0 hBox hc
  by_cases hk0 : k < 0
  · have q0 : decide (k < 0) = true := by simpa using hk0
    have ho := Lib.hid (hno.out (by unfold offerNo; rw [q0]; rfl) W1 (Below.refl _ _))
    clear hno hyes
    go_enter Try.func10, Try.ntmps10
    go_upto_region 1 with fail
    rw [hW1.out]
    go_wp2_with fail
    go_ret
    exact ho.out
  have q0 : decide (k < 0) = false := by simpa using hk0
  by_cases hmod : k % period = 0
  rotate_left
  · have qm : (k % period != 0) = true := by simpa using hmod
    have ho := Lib.hid (hno.out (by unfold offerNo; rw [q0, qm]; rfl) W1 (Below.refl _ _))
    clear hno hyes
    go_enter Try.func10, Try.ntmps10
    go_upto_region 1 with fail
    rw [hW1.out]
    go_wp2_with fail
    go_ret
    exact ho.out
  have qm : (k % period != 0) = false := by simpa using hmod
  replace hno := Lib.hid (fun (h : SM.has L k = true) => hno.out (by unfold offerNo; rw [q0, qm, h]; rfl))
  replace hyes := Lib.hid (fun (h : SM.has L k = false) => hyes.out (by unfold offerNo; rw [q0, qm, h]; rfl))
  go_enter Try.func10, Try.ntmps10
  go_upto_region 1 with fail
  rw [hW1.out, hbx.out]
  go_wp2_with fail
  go_loopg [7, 8, 9] m (fun gh u v y wr => ∃ (i : Nat) (d : Bool) (l : List (Int × StC)) (a : Option Addr) (c : Nat), gh = m - i ∧ u = .slice a l.length c ∧ v = .bool d ∧ y = .int .i64 (i : Int) ∧ i ≤ m ∧ W1.heap.size ≤ wr.heap.size ∧ Hid (OffRel L k V W1.heap.size i (.slice a l.length c) wr d l) ∧ Hid (wr.ownsRow W1.heap.size 54 28 (.slice a l.length c) l.length (rowsR l)) ∧ Hid (Below W1.heap.size W1 wr))
  case atStart => exact ⟨0, false, [], none, 0, rfl, rfl, rfl, rfl, Nat.zero_le _, Nat.le_refl _, Lib.hid (.no (by simp)), hnil, Lib.hid (Below.refl _ _)⟩
  case round =>
    obtain ⟨i, d, l, oa, oc, rfl, rfl, rfl, rfl, him, hszr, hrel, hro, hbr⟩ := hrel
    obtain ⟨y0, y1, y1f, yl, hrow, hBr, hst⟩ := hfacts.out wr hbr.out
    rw [hm.out] at y1
    replace hBr := Lib.hid hBr
    have hll : l.length ≤ i + 1 := hrel.out.len (by rw [hm.out]; exact him)
    have hcw := Lib.hid (hcp.out wr hbr.out)
    clear x0 x1 x1f xl
    by_cases hlt : i < m
    · have hi' : i < L.length := by rw [hm.out]; omega
      obtain ⟨g, rfl, hg1, hg2, hcell⟩ := hrow i hi'
      obtain ⟨c0, -, c2⟩ := hcell i hi'
      obtain ⟨x, hx⟩ : ∃ x, L[i] = x := ⟨_, rfl⟩
      rw [hx] at c0 c2
      have hit : (i : Int) < (m : Int) := by omega
      have hi0' : (0 : Int) ≤ (i : Int) := by omega
      clear hcell hrow
      have hhas := Lib.hid (fun h => has_hit hi' (n := k) (by rw [hx]; exact h))
      obtain ⟨k1, hk1⟩ : ∃ k1, x.1 = k1 := ⟨_, rfl⟩
      rw [hk1] at c0
      by_cases he : k1 = k
      · have q1 : (k1 == k) = true := by simpa using he
        have ho := Lib.hid (hno.out (hhas.out (hk1.trans he)) wr hbr.out)
        clear hno hyes hcw hcp hfacts hst
        go_wp2_with fail
        go_ret
        exact ho.out
      have q1 : (k1 == k) = false := by simpa using he
      have hone := Lib.hid (row_one x)
      have hrl := Lib.hid (rowR_len x)
      by_cases hins : d = false ∧ k < k1
      · obtain ⟨rfl, q2⟩ := hins
        have hins : false = false ∧ k < k1 := ⟨rfl, q2⟩
        obtain ⟨hll2, hlow⟩ : l = L.take i ∧ ∀ p ∈ L.take i, p.1 < k := by
          have h := hrel.out
          cases h with
          | no h => exact ⟨rfl, h⟩
        have q3 : decide (k < k1) = true := by simpa using q2
        obtain ⟨R, hR⟩ : ∃ R, rowR x = R := ⟨_, rfl⟩
        rw [hR] at hone hrl
        replace hlow := Lib.hid hlow
        replace hll2 := Lib.hid hll2
        replace hins := Lib.hid hins
        replace hR := Lib.hid hR
        replace hx := Lib.hid hx
        replace hk1 := Lib.hid hk1
        clear hno hyes hhas c2 q2
        go_wp2_with (first
          | (go_at_call 8; (with_reducible refine hcw.out.mono ?_); rintro e w5 ⟨s', rfl, hs5, hb5⟩; have hb5' := bl_trans hbr.out hb5; have hz5 : W1.heap.size ≤ w5.heap.size := (Nat.le_trans hszr hb5.size); have hro5 := own_below hro.out hb5; have hbu := build_is k s' w5; have hbl := slice_is (k, s') w5; have hsr5 := Lib.hid (row_new w5 (k, s')); have hone5 := Lib.hid (row_one (k, s')); have hrl5 := Lib.hid (rowR_len (k, s')); have hro52 := Lib.hid (hro5.alloc (.cells (rowR (k, s')).toArray 54)); have hst5 := Lib.hid (row_step (x := (k, s')) hb5' hz5 hro5 hs5 (fun b e => Or.inl (hro.out.lt b e).2)); obtain ⟨R5, hR5⟩ : ∃ R5, rowR (k, s') = R5 := ⟨_, rfl⟩; rw [hR5] at hbu hbl hsr5 hone5 hro52 hst5 hrl5; obtain ⟨C5, hC5⟩ : ∃ C5, s'.cells.toArray = C5 := ⟨_, rfl⟩; rw [hC5] at hbu ⊢; replace hR5 := Lib.hid hR5; replace hC5 := Lib.hid hC5; have hn5 := hszr; clear hro5 hs5 hb5 hb5')
          | (at_builtin; refine wpList_append_on rfl (.tmp 54) (.tmp 59) 29 rfl W1.heap.size 54 i0 _ 28 _ Try.underlying29 hi0 hz0 hz1 rfl rfl (by decide) _ l.length (rowsR l) (by rfl) hro52.out ⟨w5.heap.size, 0, none⟩ 1 1 _ (by rfl) hsr5.out (by rw [hrl5.out]) hone5.out (by unfold maxLen; (try simp only [List.length_append, List.length_cons, List.length_nil]); omega) (Nat.le_trans (Nat.mul_le_mul_left _ hz2) (by (try simp only [List.length_append, List.length_cons, List.length_nil]); omega)) (by simp; omega) ?_; intro v2 w6 ho6 hg6 hv6; obtain ⟨⟨a6, c6, rfl, ho7⟩, hb7, hs7, hin7, hown7⟩ := hst5.out v2 w6 ho6 hg6 hv6; obtain ⟨l7, hl7⟩ : ∃ l7, l ++ [(k, s')] = l7 := ⟨_, rfl⟩; have hll7 : l7.length ≤ i + 2 := (by rw [← hl7, List.length_append]; simpa using hll); rw [hl7] at ho7 hown7 ⊢; replace hl7 := Lib.hid hl7; obtain ⟨z0, z1, z1f, zl, hrow7, -, -⟩ := hfacts.out w6 hb7; rw [hm.out] at z1; obtain ⟨g', hgg, hg8, hg9, hcell7⟩ := hrow7 i hi'; obtain rfl : g = g' := (by simpa using hgg); obtain ⟨-, -, c7⟩ := hcell7 i hi'; rw [hx.out] at c7; have hbd := slice_is x w6; have hsr := Lib.hid (row_new w6 x); have hro8 := Lib.hid (ho7.alloc (.cells (rowR x).toArray 54)); have hst7 := Lib.hid (row_step (x := x) hb7 hs7 ho7 hin7 hown7); rw [hR.out] at c7 hbd hsr hro8 hst7; clear ho6 hg6 hv6 hcell7 hrow7 hgg ho7 hin7 hown7)
          | (at_builtin; refine wpList_append_on rfl (.tmp 61) (.tmp 69) 29 rfl W1.heap.size 54 i0 _ 28 _ Try.underlying29 hi0 hz0 hz1 rfl rfl (by decide) _ l7.length (rowsR l7) (by rfl) hro8.out ⟨w6.heap.size, 0, none⟩ 1 1 _ (by rfl) hsr.out (by rw [hrl.out]) hone.out (by unfold maxLen; (try simp only [List.length_append, List.length_cons, List.length_nil]); omega) (Nat.le_trans (Nat.mul_le_mul_left _ hz2) (by (try simp only [List.length_append, List.length_cons, List.length_nil]); omega)) (by simp; omega) ?_; intro v2 w8 ho8 hg8' hv8; obtain ⟨⟨a8, c8, rfl, ho9⟩, hb9, hs9, hin9, hown9⟩ := hst7.out v2 w8 ho8 hg8' hv8; have hput := Lib.hid (OffRel.put hlow.out hi' (by rw [hx.out, hk1.out]; exact hins.out.2) hn5 hin9 hown9); replace ho9 := Lib.hid ho9; replace hb9 := Lib.hid hb9; clear ho8 hg8' hv8 hin9 hown9))
        go_roundg (m - (i + 1))
        case measure => omega
        case rel => exact ⟨i + 1, true, l7 ++ [x], a8, c8, rfl, by rw [List.length_append]; rfl, rfl, by go_num, by omega, hs9, Lib.hid (by have := hput.out; rw [← hll2.out, hx.out, hl7.out] at this; exact this), ho9, hb9⟩
      · have hq : (decide (k < k1) = false ∧ d = false) ∨ d = true := by
          cases d
          · exact .inl ⟨by simpa using hins, rfl⟩
          · exact .inr rfl
        have hbd := slice_is x wr
        have hsr := Lib.hid (row_new wr x)
        have hro2 := Lib.hid (hro.out.alloc (.cells (rowR x).toArray 54))
        have hfin := Lib.hid (fun v2 w2 => row_grown (x := x) (v2 := v2) (w2 := w2) hbr.out hszr hro.out)
        have hnx := Lib.hid (fun v2 w2 => OffRel.next (v2 := v2) (w2 := w2) hrel.out hi' (by rw [hx, hk1]; rcases hq with h | h; exact .inr (by have := of_decide_eq_false h.1; omega); exact .inl ⟨h, he⟩))
        rw [hx] at hnx
        obtain ⟨R, hR⟩ : ∃ R, rowR x = R := ⟨_, rfl⟩
        rw [hR] at c2 hbd hsr hone hro2 hfin hrl
        replace hR := Lib.hid hR
        replace hx := Lib.hid hx
        replace hk1 := Lib.hid hk1
        clear hno hyes hcw hcp hst hhas hins
        rcases hq with ⟨q2, rfl⟩ | rfl
        · go_wp2_with (at_builtin; refine wpList_append_on rfl (.tmp 61) (.tmp 69) 29 rfl W1.heap.size 54 i0 _ 28 _ Try.underlying29 hi0 hz0 hz1 rfl rfl (by decide) _ l.length (rowsR l) (by rfl) hro2.out ⟨wr.heap.size, 0, none⟩ 1 1 _ (by rfl) hsr.out (by rw [hrl.out]) hone.out (by unfold maxLen; omega) (Nat.le_trans (Nat.mul_le_mul_left _ hz2) (by omega)) (by simp; omega) ?_; intro v2 w2 ho2 hg2' hv2; obtain ⟨⟨a2, c2', rfl, ho3⟩, hb3, hs3, hov, hkp⟩ := hfin.out v2 w2 ho2 hg2' hv2; have hnx2 := Lib.hid (hnx.out _ w2 hov hkp); replace ho3 := Lib.hid ho3; replace hb3 := Lib.hid hb3; clear ho2 hg2' hv2 hov hkp)
          go_roundg (m - (i + 1))
          case measure => omega
          case rel => exact ⟨i + 1, false, l ++ [x], a2, c2', rfl, by rw [List.length_append]; rfl, rfl, by go_num, by omega, hs3, hnx2, ho3, hb3⟩
        · obtain ⟨b2, hb2⟩ : ∃ b2, decide (k < k1) = b2 := ⟨_, rfl⟩
          cases b2
          all_goals go_wp2_with (at_builtin; refine wpList_append_on rfl (.tmp 61) (.tmp 69) 29 rfl W1.heap.size 54 i0 _ 28 _ Try.underlying29 hi0 hz0 hz1 rfl rfl (by decide) _ l.length (rowsR l) (by rfl) hro2.out ⟨wr.heap.size, 0, none⟩ 1 1 _ (by rfl) hsr.out (by rw [hrl.out]) hone.out (by unfold maxLen; omega) (Nat.le_trans (Nat.mul_le_mul_left _ hz2) (by omega)) (by simp; omega) ?_; intro v2 w2 ho2 hg2' hv2; obtain ⟨⟨a2, c2', rfl, ho3⟩, hb3, hs3, hov, hkp⟩ := hfin.out v2 w2 ho2 hg2' hv2; have hnx2 := Lib.hid (hnx.out _ w2 hov hkp); replace ho3 := Lib.hid ho3; replace hb3 := Lib.hid hb3; clear ho2 hg2' hv2 hov hkp)
          all_goals go_roundg (m - (i + 1))
          case measure => omega
          case rel => exact ⟨i + 1, true, l ++ [x], a2, c2', rfl, by rw [List.length_append]; rfl, rfl, by go_num, by omega, hs3, hnx2, ho3, hb3⟩
          case measure => omega
          case rel => exact ⟨i + 1, true, l ++ [x], a2, c2', rfl, by rw [List.length_append]; rfl, rfl, by go_num, by omega, hs3, hnx2, ho3, hb3⟩
    · obtain rfl : i = m := by omega
      have hR := hrel.out
      have htk : L.take i = L := by rw [← hm.out, List.take_length]
      have hmiss := Lib.hid (has_miss (htk ▸ hrel.out.ne))
      clear hno
      cases hR with
      | no hlow =>
        have hlow' := htk ▸ hlow
        have hput := Lib.hid (fun s' : StC => (by rw [htk, put_low hlow'] : L.take i ++ [(k, s')] = SM.put k s' L))
        obtain ⟨l, hl⟩ : ∃ l, L.take i = l := ⟨_, rfl⟩
        rw [hl] at hro hrel hll hput ⊢
        clear hlow hlow' htk hl
        go_wp2_with (first
          | (go_at_call 8; (with_reducible refine hcw.out.mono ?_); rintro e w5 ⟨s', rfl, hs5, hb5⟩; have hb5' := bl_trans hbr.out hb5; have hz5 : W1.heap.size ≤ w5.heap.size := (Nat.le_trans hszr hb5.size); have hro5 := own_below hro.out hb5; have hbu := build_is k s' w5; have hbl := slice_is (k, s') w5; have hsr5 := Lib.hid (row_new w5 (k, s')); have hone5 := Lib.hid (row_one (k, s')); have hrl5 := Lib.hid (rowR_len (k, s')); have hro52 := Lib.hid (hro5.alloc (.cells (rowR (k, s')).toArray 54)); have hst5 := Lib.hid (row_step (x := (k, s')) hb5' hz5 hro5 hs5 (fun b e => Or.inl (hro.out.lt b e).2)); obtain ⟨R5, hR5⟩ : ∃ R5, rowR (k, s') = R5 := ⟨_, rfl⟩; rw [hR5] at hbu hbl hsr5 hone5 hro52 hst5 hrl5; obtain ⟨C5, hC5⟩ : ∃ C5, s'.cells.toArray = C5 := ⟨_, rfl⟩; rw [hC5] at hbu ⊢; replace hR5 := Lib.hid hR5; replace hC5 := Lib.hid hC5; have hn5 := hszr; clear hro5 hs5 hb5 hb5')
          | (at_builtin; refine wpList_append_on rfl (.tmp 73) (.tmp 78) 29 rfl W1.heap.size 54 i0 _ 28 _ Try.underlying29 hi0 hz0 hz1 rfl rfl (by decide) _ l.length (rowsR l) (by rfl) hro52.out ⟨w5.heap.size, 0, none⟩ 1 1 _ (by rfl) hsr5.out (by rw [hrl5.out]) hone5.out (by unfold maxLen; omega) (Nat.le_trans (Nat.mul_le_mul_left _ hz2) (by omega)) (by simp; omega) ?_; intro v2 w6 ho6 hg6 hv6; obtain ⟨⟨a6, c6, rfl, ho7⟩, hb7, hs7, hin7, hown7⟩ := hst5.out v2 w6 ho6 hg6 hv6; obtain ⟨z0, z1, z1f, zl, -, hB7, -⟩ := hfacts.out w6 hb7; rw [hm.out] at z1; have hfin := Lib.hid (hyes.out hmiss.out s' a6 c6 _ _ w6 _ _ (hput.out s') hb7 hB7 ho7 hn5 hin7); obtain ⟨l7, hl7⟩ : ∃ l7, l ++ [(k, s')] = l7 := ⟨_, rfl⟩; rw [hl7] at hfin ⊢; clear ho6 hg6 hv6 ho7 hin7 hown7 hB7 hl7))
        go_ret
        exact hfin.out
      | yes s' n5 m5 _ _ h5 hs _ =>
        have hfin := Lib.hid (hyes.out hmiss.out s' oa oc n5 m5 wr (SM.put k s' (L.take i)) _ (by rw [htk]) hbr.out hBr.out hro.out h5 hs)
        obtain ⟨l, hl⟩ : ∃ l, SM.put k s' (L.take i) = l := ⟨_, rfl⟩
        rw [hl] at hro hrel hll hfin ⊢
        clear hl htk
        go_wp2_with fail
        go_ret
        exact hfin.out
end Go.Proofs.Ytfidmpkblmebeaa
