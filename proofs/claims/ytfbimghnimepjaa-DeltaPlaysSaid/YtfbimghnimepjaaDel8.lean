/-
  The contract of the reference's put, of chapter 23.
  Conditions: as each theorem states them.
-/
import Derived.Test.YtfbimghnimepjaaDel7
import Derived.Deep.AppendLies
import Derived.Deep.RegionHeld3
namespace Go.Proofs.Ytfbimghnimepjaa
open Go.RowKit
set_option linter.unusedVariables false
set_option linter.unusedSimpArgs false
attribute [local go_sem ↓] run_cut_h run_cut_l run_cut_lh
theorem wp_append_vs {P : Program} {w : World} {o : Oper} {a : Act} {K : Act → World → Prop} {Q : Exit → Act → World → Prop} (s x : Operand) (t : TypeId)
    (ho : o.op = .call { callee := .builtin .append, args := #[s, x], argTypes := #[t, t] })
    (base : Nat) (e : TypeId) (i : TypeInfo) (z : Value) (bytes : Nat) (ht : P.underlying t = some (.slice e)) (hi : P.info? e = some i) (hz : i.zero = some z) (hsize : i.size = 1) (hby : i.bytes = bytes) (hzs : z.cells.size = 1)
    (v : Value) (n : Nat) (ys : List Value) (hs : a.eval s = v) (hown : w.ownsRow base e 1 v n ys)
    (ba : Option Addr) (m c : Nat) (vs : List Value) (hm : vs.length = m) (hx : a.eval x = .slice ba m c) (hsrc : ValsAt w ba vs) (hone : ∀ u ∈ vs, u.oneCell' = true)
    (h63 : n + m ≤ maxLen) (hbound : (n + m) * bytes ≤ 140737488355328) (hbase : base ≤ w.heap.size)
    (h : ∀ v' w', w'.ownsRow base e 1 v' (n + m) (ys ++ vs) → w.grownBy w' v.ownBlock → K (a.put o.dst v') w') : o.wp P a w K Q := by
  subst hm
  rcases hsrc with ⟨rfl, rfl⟩ | ⟨ad, rfl, hc⟩
  · have hrun := run_append_nil1 (P := P) (w := w) base t o.type e i 1 ht hi v n c ys hown
    unfold Oper.wp
    simp only [List.length_nil] at hx
    simp [execOp, ho, resolve, invoke, builtin, hs, hx, hrun, Result.andThen]
    exact h v w (by simpa using hown) (World.grownBy.refl _ _)
  · exact wp_append_own w s x t ho base e i z 1 bytes ht hi hz hsize hby hzs (by omega) v n ys hs hown ad vs.length c vs hx (by simp) hc hone h63 hbound hbase (fun v' w' h1 h2 _ => h v' w' h1 h2)
/-- the same at a step of a region that draws its order -/
theorem step_append_vs {P : Program} {w : World} {ops : Array Oper} {o : Oper} {a : Act} {K : Act → World → Prop} {Q : Exit → Act → World → Prop} {E : Prop} (hgd : o.guard = none) (s x : Operand) (t : TypeId)
    (ho : o.op = .call { callee := .builtin .append, args := #[s, x], argTypes := #[t, t] })
    (base : Nat) (e : TypeId) (i : TypeInfo) (z : Value) (bytes : Nat) (ht : P.underlying t = some (.slice e)) (hi : P.info? e = some i) (hz : i.zero = some z) (hsize : i.size = 1) (hby : i.bytes = bytes) (hzs : z.cells.size = 1)
    (v : Value) (n : Nat) (ys : List Value) (hs : a.eval s = v) (hown : w.ownsRow base e 1 v n ys)
    (ba : Option Addr) (m c : Nat) (vs : List Value) (hm : vs.length = m) (hx : a.eval x = .slice ba m c) (hsrc : ValsAt w ba vs) (hone : ∀ u ∈ vs, u.oneCell' = true)
    (h63 : n + m ≤ maxLen) (hbound : (n + m) * bytes ≤ 140737488355328) (hbase : base ≤ w.heap.size)
    (h : ∀ v' w', w'.ownsRow base e 1 v' (n + m) (ys ++ vs) → w.grownBy w' v.ownBlock → K (a.put o.dst v') w') :
    if Region.wanted o (yielded ops a.tmps) = true then Oper.wp P o a w K Q else E := by
  have hw : Region.wanted o (yielded ops a.tmps) = true := by simp [Region.wanted, hgd]
  rw [if_pos hw]
  exact wp_append_vs s x t ho base e i z bytes ht hi hz hsize hby hzs v n ys hs hown ba m c vs hm hx hsrc hone h63 hbound hbase h
theorem OutAt.weak {K L : Nat → Prop} {own : Bool} {w : World} {a : Option Addr} {xs : List (List UInt8)} (h : OutAt K own w a xs) (hK : ∀ b, K b → L b) : OutAt L false w a xs :=
  fun h0 => let ⟨g, e, k, l, f, r⟩ := h h0
    ⟨g, e, hK _ k, l, f, fun i hi => let ⟨xa, xc, e, h1, h2, h3⟩ := r i hi; ⟨xa, xc, e, h1, h2, h3.plain.mono (fun b hb => ⟨hK b hb.1, hb.2⟩)⟩⟩
set_option maxHeartbeats 4000000 in
set_option maxRecDepth 100000 in
theorem rput_yes (i p : Nat) (oa na la : Option Addr) (oc nc lc : Nat) (old new : List UInt8) (xs : List (List UInt8)) (w : World)
    (hn : xs.length ≤ 1000000) (hx : Lens 100000 xs) (ho : old.length ≤ 100000 ∧ old.length ≤ oc ∧ oc ≤ maxLen) (hn' : new.length ≤ 100000 ∧ new.length ≤ nc ∧ nc ≤ maxLen)
    (h1 : OutAt (fun _ => True) false w la xs) (h2 : ByAt (fun _ => True) false w oa old) (h3 : ByAt (fun _ => True) false w na new)
    (hi : i < xs.length) (hp : p ≤ xs[i].length) (hpre : old.isPrefixOf (xs[i].drop p) = true) :
    Calls Try.prog 78 #[.slice la xs.length lc, .int .i64 (i : Int), .int .i64 (p : Int), .slice oa old.length oc, .slice na new.length nc] w fun e w' =>
      e = .returned (.bool true) ∧ Only (fun k => la = some ⟨k, 0, none⟩) w w' ∧ OutAt (fun _ => True) false w' la (xs.set i (xs[i].take p ++ (new ++ (xs[i].drop p).drop old.length))) := by
  obtain ⟨i0, hi0, hz0, hz1, hz2⟩ := info_parts info5_
  obtain ⟨g, rfl, kg, lg, fg, rg⟩ := h1 (by omega)
  obtain ⟨xa, xc, c1, x1, x2, hB⟩ := rg i hi
  have hxl := hx i hi
  have f1 := fg i hi
  have hl3 : old.length ≤ xs[i].length - p := by
    rw [List.isPrefixOf_iff_prefix] at hpre
    have := hpre.length_le
    simpa using this
  have htk : ((xs[i].drop p).take old.length).length = old.length := by simp; omega
  have hsm := fun n => same_any (cutA xa p xc 1) oa ((xs[i].drop p).take old.length) old (xc - p) oc (w.drewN n) (by rw [htk]; omega) (by omega) (((hB.any.drop x1 p).take old.length).drewN n) (h2.drewN n)
  have heq : (xs[i].drop p).take old.length = old := by
    rw [List.isPrefixOf_iff_prefix, List.prefix_iff_eq_take] at hpre
    exact hpre.symm
  rw [htk, heq, eqB_true.2 rfl] at hsm
  obtain ⟨zs, hzs⟩ : ∃ zs, zs = xs[i].take p ++ (new ++ (xs[i].drop p).drop old.length) := ⟨_, rfl⟩
  have htl : (xs[i].take p).length = p := by simp; omega
  have hcp := fun n => rcopy_any xa xc (xs[i].take p) (w.drewN n) (by rw [htl]; omega) ((hB.any.take p).drewN n)
  rw [htl] at hcp
  have hfin := fun (W5 : World) (hb : Below w.heap.size w W5) (a : Option Addr) (c : Nat) => OutAt.put (K := fun _ => True) (own := false) (w := w) (w5 := W5) (g := g) h1 hb hi (a := a) (c := c) (x := zs)
  have hby := fun (W : World) (hb : Below w.heap.size w W) => (⟨(h3.below hb).vals, ((hB.any.drop x1 (p + old.length)).below hb).vals⟩ : ValsAt W na (new.map bv) ∧ ValsAt W (cutA xa (p + old.length) xc 1) ((xs[i].drop (p + old.length)).map bv))
  have hend := fun (W : World) (v : Value) (hv : W.ownsRow w.heap.size 5 1 v (p + new.length + (xs[i].length - (p + old.length))) ((xs[i].take p).map bv ++ new.map bv ++ (xs[i].drop (p + old.length)).map bv)) => (by
    have e : (xs[i].take p).map bv ++ new.map bv ++ (xs[i].drop (p + old.length)).map bv = zs.map bv := by rw [hzs, List.drop_drop]; simp
    have e2 : p + new.length + (xs[i].length - (p + old.length)) = zs.length := by rw [hzs]; simp; omega
    rw [e, e2] at hv
    exact ByAt.of_owns hv rfl : ∃ a c, v = .slice a zs.length c ∧ zs.length ≤ c ∧ c ≤ maxLen ∧ ByAt (fun b => w.heap.size ≤ b) true W a zs)
  rw [← hzs]
  have kf := Lib.hid (fun (W : World) (hb : Below w.heap.size w W) => (⟨(hb.cell (p := ⟨g, i, none⟩) lg).trans c1, (hb.frozen (p := ⟨g, i, none⟩) lg).trans f1⟩ : W.cell? ⟨g, i, none⟩ = some (.slice xa xs[i].length xc) ∧ W.frozen? ⟨g, i, none⟩ = false))
  have b1 := bv_one new
  have b2 := bv_one (xs[i].drop (p + old.length))
  have l1 : (new.map bv).length = new.length := by simp
  have l2 : ((xs[i].drop (p + old.length)).map bv).length = xs[i].length - (p + old.length) := by simp
  have z1 : (p : Int) ≤ xs[i].length := by omega
  have z2 : (p : Int) ≤ xc := by omega
  have z3 : (i : Int) < xs.length := by omega
  have z4 : (p : Int) + old.length ≤ xs[i].length := by omega
  have z5 : decide ((i : Int) < 0) = false := by simp only [decide_eq_false_iff_not]; omega
  have z6 : decide (xs.length ≤ i) = false := by simp only [decide_eq_false_iff_not]; omega
  have z7 : decide ((p : Int) < 0) = false := by simp only [decide_eq_false_iff_not]; omega
  have z8 : decide (xs[i].length < p) = false := by simp only [decide_eq_false_iff_not]; omega
  have z9 : IntKind.i64.wrap ((p : Int) + old.length) = (p : Int) + old.length := IntWalk.i64_in _ (by omega)
  have z10 : (p : Int) + old.length ≤ xc := by omega
  have z12 : (p : Int) ≤ (p : Int) + old.length := by omega
  have z14 : (0 : Int) ≤ (p : Int) + old.length := by omega
  have z13 : p + old.length - p = old.length := by omega
  have z11 : ((p : Int) + old.length).toNat = p + old.length := by omega
  replace hsm := Lib.hid hsm
  have hcp2 := Lib.hid (fun (W : World) (hb : Below w.heap.size w W) (hz : W.heap.size = w.heap.size) => (by
    have h := rcopy_any xa xc (xs[i].take p) W (by rw [htl]; omega) ((hB.any.take p).below hb)
    rw [htl, hz] at h
    exact h.mono (fun e w' ⟨v, q1, q2, q3⟩ => ⟨v, q1, q2, hb.trans q3⟩) :
    Calls Try.prog 77 #[.slice xa p xc] W fun e w' => ∃ v, e = .returned v ∧ w'.ownsRow w.heap.size 5 1 v p ((xs[i].take p).map bv) ∧ Below w.heap.size w w'))
  clear hcp
  replace hfin := Lib.hid hfin
  replace hby := Lib.hid hby
  replace hend := Lib.hid hend
  replace hzs := Lib.hid hzs
  replace hpre := Lib.hid hpre
  replace htl := Lib.hid htl
  replace htk := Lib.hid htk
  replace heq := Lib.hid heq
  replace b1 := Lib.hid b1
  replace b2 := Lib.hid b2
  replace l1 := Lib.hid l1
  replace l2 := Lib.hid l2
  clear hx rg fg h1 h2 h3 hB f1
  go_enter Try.func78, Try.ntmps78
  go_wp2_with (first | (go_at_call 37; refine (hsm.out 0).mono ?_; rintro e w' ⟨rfl, m, rfl⟩))
  obtain ⟨W0, hW0⟩ : ∃ W0, w.drewN m = W0 := ⟨_, rfl⟩
  have hbd : Below w.heap.size w W0.drew := by rw [← hW0]; exact bl_drew (bl_drewN (Below.refl _ _) _)
  have hz : W0.drew.heap.size = w.heap.size := by rw [← hW0]; rfl
  have hcp3 := Lib.hid (hcp2.out _ hbd hz)
  rw [hW0]
  replace hW0 := Lib.hid hW0
  replace hz := Lib.hid hz
  clear c1
  have m1 : p + new.length ≤ maxLen := by unfold maxLen; omega
  have m2 : (p + new.length) * 1 ≤ 140737488355328 := by omega
  have m3 : p + new.length + (xs[i].length - (p + old.length)) ≤ maxLen := by unfold maxLen; omega
  have m4 : (p + new.length + (xs[i].length - (p + old.length))) * 1 ≤ 140737488355328 := by omega
  go_region_held3 (fun w' => True) (exact True.intro)
    (first
    | (go_at_call 77; refine hcp3.out.mono ?_; rintro e w5 ⟨v5, rfl, hown5, hb5⟩; replace hown5 := Lib.hid hown5)
    | (refine step_append_vs (by rfl) (.tmp 64) (.tmp 65) 73 (by rfl) w.heap.size 5 i0 (.int .u8 0) 1 Try.underlying73 hi0 hz0 hz1 hz2 (by rfl) v5 p _ (by rfl) hown5.out na new.length nc (new.map bv) l1.out (by rfl) (hby.out _ hb5).1 b1.out m1 m2 hb5.size ?_; intro v6 w6 hown6 hgrow6; have hb6 := hb5.grown hgrow6 hb5.size (fun j hj => (hown5.out.lt j hj).1); replace hown6 := Lib.hid hown6)
    | (refine step_append_vs (by rfl) (.tmp 66) (.tmp 72) 73 (by rfl) w.heap.size 5 i0 (.int .u8 0) 1 Try.underlying73 hi0 hz0 hz1 hz2 (by rfl) v6 (p + new.length) _ (by rfl) hown6.out (cutA xa (p + old.length) xc 1) (xs[i].length - (p + old.length)) (xc - (p + old.length)) ((xs[i].drop (p + old.length)).map bv) l2.out (by rfl) (hby.out _ hb6).2 b2.out m3 m4 hb6.size ?_; intro v7 w7 hown7 hgrow7; have hb7 := hb6.grown hgrow7 hb6.size (fun j hj => (hown6.out.lt j hj).1); obtain ⟨a7, c7, rfl, y1, y2, hB7⟩ := hend.out _ _ hown7; clear hown7; have q1 := (kf.out _ hb7).1; have q2 := (kf.out _ hb7).2; replace hB7 := Lib.hid hB7))
  all_goals go_wp2_with fail
  all_goals go_ret
  all_goals exact ⟨rfl, (Only.of_below (S := fun k => some (⟨g, 0, none⟩ : Addr) = some ⟨k, 0, none⟩) hb7).setCell (p := ⟨g, i, none⟩) rfl _, hfin.out _ hb7 a7 c7 y1 y2 (hB7.out.mono (fun b hb => ⟨trivial, by omega⟩)).plain⟩
end Go.Proofs.Ytfbimghnimepjaa
