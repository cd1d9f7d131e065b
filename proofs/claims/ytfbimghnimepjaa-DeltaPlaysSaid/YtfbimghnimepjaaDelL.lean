/-
  The walk of the law DeltaBack, of chapter 23.
  Conditions: none but that what comes in is data of its type.
-/
import Derived.Test.YtfbimghnimepjaaDelA
import Derived.Test.YtfbimghnimepjaaDelV
namespace Go.Proofs.Ytfbimghnimepjaa
open Go.RowKit
set_option linter.unusedVariables false
set_option linter.unusedSimpArgs false
abbrev Chg0 := Int × Int × List UInt8 × List UInt8 × Unit
def chg1 (t : Chg0) : DM.Chg := ⟨t.1, t.2.1, t.2.2.1, t.2.2.2.1⟩
theorem chg0_1 (t : Chg0) : chg0 (chg1 t) = t := rfl
theorem WfCh.of_sub {S : Sub} {v : Value} {ds : List DM.Chg} (h : (rSl rChg).ok S [v] ds) : WfCh ds := by
  intro i hi
  obtain ⟨a, c, e, h1, h2, h3⟩ := h
  obtain ⟨b, o, e, hr⟩ := h3 (by omega)
  obtain ⟨cs, hok, _⟩ := hr i hi
  obtain ⟨c1, c2, rfl, ⟨rfl, f1⟩, c3, c4, rfl, ⟨rfl, f2⟩, _⟩ := hok
  exact ⟨f1, f2⟩
theorem apply_lens {B : Nat} : ∀ {ds : List DM.Chg} {xs ys : List (List UInt8)}, DM.apply ds xs = some ys → Lens B xs → (∀ c ∈ ds, c.new.length ≤ 200) → Lens (B + 200 * ds.length) ys ∧ ys.length = xs.length := by
  intro ds
  induction ds generalizing B with
  | nil => intro xs ys h hl _; cases h; exact ⟨by simpa using hl, rfl⟩
  | cons c ds ih =>
    intro xs ys h hl hc
    simp only [DM.apply] at h
    cases hp : DM.put xs c with
    | none => rw [hp] at h; cases h
    | some zs =>
      rw [hp] at h
      obtain ⟨h1, h2⟩ := hl.put hp
      have hc1 := hc c (by simp)
      have h1' : Lens (B + 200) zs := fun j hj => by have := h1 j hj; omega
      obtain ⟨h3, h4⟩ := ih h h1' (fun c' hc' => hc c' (by simp [hc']))
      refine ⟨fun j hj => ?_, by omega⟩
      have := h3 j hj
      simp only [List.length_cons]
      omega
def Few (k : Nat) (ds : List DM.Chg) : Prop := ∀ i (h : i < ds.length), i < k → ds[i].old.length ≤ 200 ∧ ds[i].new.length ≤ 200
theorem txB_refl (xs : List (List UInt8)) : txB xs xs = true := by simp [txB]
theorem Applied.get {xs : Option (List (List UInt8))} {ys : List (List UInt8)} {w w' : World} {e : Ending} (hx : xs = some ys) (h : Applied xs w e w') : ∃ a c, e = .returned (.tuple #[.slice a ys.length c, .bool true]) ∧ OutAt (fun b => w.heap.size ≤ b) true w' a ys ∧ Below w.heap.size w w' := by
  subst hx; exact h
theorem Applied.getNo {xs : Option (List (List UInt8))} {w w' : World} {e : Ending} (hx : xs = none) (h : Applied xs w e w') : e = .returned (.tuple #[.slice none 0 0, .bool false]) ∧ Below w.heap.size w w' := by
  subst hx; exact h
theorem quiet_c {P : Program} {f : FuncId} {args : Array Value} {w : World} {v : Value} (h : Calls P f args w fun e w' => e = .returned v ∧ ∃ k, w' = w.drewN k) : Calls P f args w fun e w' => e = .returned v ∧ ∃ k, w' = w.drewN k := h
/-- what comes in as changes -/
theorem openCh {W : World} {a0 : Option Addr} {l0 c0 : Nat} {x0 : List Chg0} (r0 : (rSl rChg0).ok (Sub.all W) [.slice a0 l0 c0] x0) :
    l0 = (x0.map chg1).length ∧ (x0.map chg1).length ≤ 9223372036854775807 ∧ WfCh (x0.map chg1) ∧ ChAt (fun _ => True) W a0 (x0.map chg1) ∧ (∀ i (h : i < (x0.map chg1).length), (x0.map chg1)[i].old.length ≤ 9223372036854775807 ∧ (x0.map chg1)[i].new.length ≤ 9223372036854775807) := by
  have r1 : (rSl rChg).ok (Sub.all W) [.slice a0 l0 c0] (x0.map chg1) := rSl_by chg0_1 r0
  obtain ⟨a, c, e, h1, h2, h3⟩ := ChAt.of_sub (Sub.all_in W) r1
  have e' := e
  injection e' with e1 e2 e3
  subst e1
  unfold maxLen at h2
  refine ⟨e2, by omega, WfCh.of_sub r1, h3.any, fun i hi => ?_⟩
  obtain ⟨b, o, oa, oc, na, nc, _, _, _, _, _, _, _, q1, q2, q3, q4, _⟩ := h3.nth hi
  unfold maxLen at q2 q4
  omega
/-- what comes in as texts -/
theorem openTx {W : World} {a0 : Option Addr} {l0 c0 : Nat} {x0 : List (List UInt8)} (r0 : (rSl (rSl rByte)).ok (Sub.all W) [.slice a0 l0 c0] x0) :
    l0 = x0.length ∧ x0.length ≤ 9223372036854775807 ∧ TxAt (fun _ => True) false W a0 x0 ∧ (∀ i (h : i < x0.length), x0[i].length ≤ 9223372036854775807) := by
  obtain ⟨a, c, e, h1, h2, h3⟩ := TxAt.of_ok r0
  have e' := e
  injection e' with e1 e2 e3
  subst e1
  unfold maxLen at h2
  refine ⟨e2, by omega, h3, fun i hi => ?_⟩
  obtain ⟨b, o, xa, xc, _, _, q1, q2, _⟩ := h3.nth hi
  unfold maxLen at q2
  omega
set_option maxHeartbeats 4000000 in
set_option maxRecDepth 100000 in
theorem deltaBack_main (la aa : Option Addr) (lc ac : Nat) (ds : List DM.Chg) (xs : List (List UInt8)) (w : World) (hl : ds.length ≤ 9223372036854775807) (hxl : xs.length ≤ 9223372036854775807) (hx1 : ∀ i (h : i < xs.length), xs[i].length ≤ 9223372036854775807)
    (hd1 : ∀ i (h : i < ds.length), ds[i].old.length ≤ 9223372036854775807 ∧ ds[i].new.length ≤ 9223372036854775807) (hwf : WfCh ds) (h1 : ChAt (fun _ => True) w la ds) (h2 : TxAt (fun _ => True) false w aa xs) :
    Calls Try.prog 13 #[.slice la ds.length lc, .slice aa xs.length ac] w fun e w' => e = .returned (.bool true) ∧ Below w.heap.size w w' := by
  have hgr := great_any aa xs ac w hxl hx1 h2
  by_cases hg : greatB xs = true
  · rw [hg] at hgr
    replace hgr := Lib.hid hgr
    clear hg h1 h2 hwf hx1 hd1
    go_enter Try.func13, Try.ntmps13
    go_wp2_with (first | (go_at_call 42; refine hgr.out.mono ?_; rintro e w5 ⟨rfl, rfl⟩) | (go_at_call 43; refine (awake23_any _).mono ?_; rintro e w5 ⟨rfl, hb5⟩))
    all_goals go_ret
    all_goals exact ⟨rfl, hb5⟩
  · rw [Bool.not_eq_true] at hg
    rw [hg] at hgr
    obtain ⟨hn, hx⟩ := not_great hg
    replace hgr := Lib.hid hgr
    by_cases h20 : 20 < ds.length
    · have hd20 : decide ((20 : Int) < ds.length) = true := by simp only [decide_eq_true_eq]; omega
      clear hg h1 h2 hwf hx1 hd1
      go_enter Try.func13, Try.ntmps13
      go_wp2_with (first | (go_at_call 42; refine hgr.out.mono ?_; rintro e w5 ⟨rfl, rfl⟩) | (go_at_call 43; refine (awake23_any _).mono ?_; rintro e w5 ⟨rfl, hb5⟩))
      all_goals go_ret
      all_goals exact ⟨rfl, hb5⟩
    · have hd20 : decide ((20 : Int) < ds.length) = false := by simp only [decide_eq_false_iff_not]; omega
      have hd20' : ds.length ≤ 20 := by omega
      replace h1 := Lib.hid h1
      replace h2 := Lib.hid h2
      replace hwf := Lib.hid hwf
      replace hd1 := Lib.hid hd1
      replace hx := Lib.hid hx
      clear hg hx1
      go_enter Try.func13, Try.ntmps13
      go_wp2_with (first | (go_at_call 42; refine hgr.out.mono ?_; rintro e w5 ⟨rfl, rfl⟩))
      go_loop [5] (fun i => ∃ k : Nat, i = .int .i64 (k : Int) ∧ k ≤ ds.length ∧ Few k ds) (fun i => ds.length - (intOf i).toNat)
      case atStart => exact ⟨0, rfl, by omega, fun i h h' => by omega⟩
      case round =>
        obtain ⟨k, rfl, hk, hf⟩ := hrel
        by_cases hlt : k < ds.length
        · obtain ⟨b, o, oa, oc, na, nc, rfl, _, hbl, k1, k2, k3, k4, _, _, _, _, b3, b4⟩ := h1.out.nth hlt
          obtain ⟨q1, q2⟩ := hd1.out k hlt
          by_cases ho : 200 < ds[k].old.length
          · clear b3 b4 hf
            go_wp2_with (go_at_call 43; refine (awake23_any _).mono ?_; rintro e w5 ⟨rfl, hb5⟩)
            all_goals go_ret
            all_goals exact ⟨rfl, hb5⟩
          · have ho' : decide (200 < (ds[k].old.length : Int)) = false := by simp only [decide_eq_false_iff_not]; omega
            by_cases hn' : 200 < ds[k].new.length
            · clear b3 b4 hf
              go_wp2_with (go_at_call 43; refine (awake23_any _).mono ?_; rintro e w5 ⟨rfl, hb5⟩)
              all_goals go_ret
              all_goals exact ⟨rfl, hb5⟩
            · have hn'' : decide (200 < (ds[k].new.length : Int)) = false := by simp only [decide_eq_false_iff_not]; omega
              have hf' : Few (k + 1) ds := fun i hi hk' => by
                by_cases e : i = k
                · subst e; omega
                · exact hf i hi (by omega)
              clear b3 b4 hf
              go_wp2_with fail
              all_goals go_round
              case measure => simp [intOf]; omega
              case rel => exact ⟨k + 1, by go_num, by omega, hf'⟩
        · obtain rfl : k = ds.length := by omega
          have hds : ∀ i (h : i < ds.length), ds[i].old.length ≤ 200 ∧ ds[i].new.length ≤ 200 := fun i h => hf i h h
          have hof := Lib.hid (of_any la lc ds w (by omega) hwf.out (fun i h => by have := hds i h; omega) h1.out)
          replace hds := Lib.hid hds
          clear hf
          go_wp2_with (go_at_call 50; refine hof.out.mono ?_; rintro e w5 ⟨da, dc, rfl, hch5, hb5⟩)
          have hA1 := apply_any da aa ds xs dc ac w5 hd20' (fun i h => by have := hds.out i h; omega) hn (fun i h => by have := hx.out i h; omega) hch5 (h2.out.below hb5)
          rcases hap : DM.apply ds xs with _ | ys
          · replace hA1 := hA1.mono (fun e w' h => Applied.getNo hap h)
            replace hA1 := Lib.hid hA1
            clear hap hch5
            go_wp2_with (first | (go_at_call 47; refine hA1.out.mono ?_; rintro e w6 ⟨rfl, hb6⟩) | (go_at_call 43; refine (awake23_any _).mono ?_; rintro e w7 ⟨rfl, hb7⟩))
            all_goals go_ret
            all_goals exact ⟨rfl, bl_trans (bl_trans hb5 hb6) hb7⟩
          · replace hA1 := hA1.mono (fun e w' h => Applied.get hap h)
            obtain ⟨hly, hyl⟩ := apply_lens (B := 200) hap (fun i h => hx.out i h) (fun c hc => by obtain ⟨i, hi, rfl⟩ := List.mem_iff_getElem.1 hc; exact (hds.out i hi).2)
            have hun := DM.undo_apply hap
            have hly' : Lens 10000 ys := fun i h => by have := hly i h; omega
            have hU := Lib.hid (fun (w6 : World) (xa : Option Addr) (xc : Nat) (hch : ChAt (fun _ => True) w6 da ds) (ht : TxAt (fun _ => True) false w6 xa ys) => (undo_any da xa ds ys dc xc w6 hd20' hds.out (by omega) hly' hch ht).mono (fun e w' h => Applied.get hun h))
            have hA2 := Lib.hid (fun (w7 : World) (ya : Option Addr) (yc : Nat) (hch : ChAt (fun _ => True) w7 da ds) (ht : TxAt (fun _ => True) false w7 ya xs) => (apply_any da ya ds xs dc yc w7 hd20' (fun i h => by have := hds.out i h; omega) hn (fun i h => by have := hx.out i h; omega) hch ht).mono (fun e w' h => Applied.get hap h))
            have hT1 := Lib.hid (fun (w8 : World) (ya : Option Addr) (yc : Nat) (ht : TxAt (fun _ => True) false w8 ya xs) (ht2 : TxAt (fun _ => True) false w8 aa xs) => texts_any ya aa xs xs yc ac w8 (by omega) (by omega) (fun i h => by have := hx.out i h; omega) (fun i h => by have := hx.out i h; omega) ht ht2)
            have hT2 := Lib.hid (fun (w8 : World) (za xa : Option Addr) (zc xc : Nat) (ht : TxAt (fun _ => True) false w8 za ys) (ht2 : TxAt (fun _ => True) false w8 xa ys) => texts_any za xa ys ys zc xc w8 (by omega) (by omega) (fun i h => by have := hly' i h; omega) (fun i h => by have := hly' i h; omega) ht ht2)
            rw [txB_refl] at hT1 hT2
            replace hA1 := Lib.hid hA1
            replace hch5 := Lib.hid hch5
            replace hyl := Lib.hid hyl
            clear hap hly hly' hun
            go_wp2_with (go_at_call 47; refine hA1.out.mono ?_; rintro e w6 ⟨xa, xc, rfl, ho6, hb6⟩)
            replace ho6 := Lib.hid ho6
            go_wp2_with (go_at_call 48; refine (hU.out w6 xa xc (hch5.out.below hb6) ho6.out.tx.any).mono ?_; rintro e w7 ⟨ya, yc, rfl, ho7, hb7⟩)
            replace ho7 := Lib.hid ho7
            go_wp2_with (go_at_call 47; refine (hA2.out w7 ya yc ((hch5.out.below hb6).below hb7) ho7.out.tx.any).mono ?_; rintro e w8 ⟨za, zc, rfl, ho8, hb8⟩)
            replace ho8 := Lib.hid ho8
            have hb58 : Below w.heap.size w w8 := bl_trans (bl_trans (bl_trans hb5 hb6) hb7) hb8
            go_wp2_with (first | (go_at_call 49; ((with_reducible refine (hT1.out w8 ya yc (ho7.out.tx.any.below hb8) (h2.out.below hb58)).mono ?_); rintro e w9 ⟨rfl, m9, rfl⟩)) | (go_at_call 49; ((with_reducible refine (hT2.out (w8.drewN m9) za xa zc xc (ho8.out.tx.any.below (bl_drewN (Below.refl _ _) _)) ((ho6.out.tx.any.below (bl_trans hb7 hb8)).below (bl_drewN (Below.refl _ _) _))).mono ?_); rintro e w9 ⟨rfl, m10, rfl⟩)) | (go_at_call 43; refine (awake23_any _).mono ?_; rintro e w11 ⟨rfl, hb11⟩))
            all_goals go_ret
            all_goals exact ⟨rfl, bl_trans (bl_drewN hb58 _) hb11⟩
theorem deltaBack_walk (W : World) (a0 : Option Addr) (l0 c0 : Nat) (x0 : List Chg0) (r0 : (rSl rChg0).ok (Sub.all W) [.slice a0 l0 c0] x0) (a1 : Option Addr) (l1 c1 : Nat) (x1 : List (List UInt8)) (r1 : (rSl (rSl rByte)).ok (Sub.all W) [.slice a1 l1 c1] x1) :
    Calls Try.prog 13 #[.slice a0 l0 c0, .slice a1 l1 c1] W fun e w' => e = .returned (.bool true) ∧ Below W.heap.size W w' := by
  obtain ⟨rfl, h1, h2, h3, h4⟩ := openCh r0
  obtain ⟨rfl, k1, k2, k3⟩ := openTx r1
  exact deltaBack_main a0 a1 c0 c1 _ x1 W h1 k1 k3 h4 h2 h3 k2
end Go.Proofs.Ytfbimghnimepjaa
