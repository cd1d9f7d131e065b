/-
  The walk of the law DeltaPlays, of chapter 23.
  Conditions: none but that what comes in is data of its type.
-/
import Derived.Test.YtfbimghnimepjaaDelP
import Derived.Deep.DeepCutAuto
namespace Go.Proofs.Ytfbimghnimepjaa
open Go.RowKit
set_option linter.unusedVariables false
set_option linter.unusedSimpArgs false
theorem size_bound {ds : List DM.Chg} {k : Nat} (hk : k ≤ ds.length) (h : ∀ i (h : i < ds.length), i < k → ds[i].old.length ≤ 200 ∧ ds[i].new.length ≤ 200) : DM.size (ds.take k) ≤ 400 * k := by
  induction k with
  | zero => simp [DM.size]
  | succ k ih =>
    have hk' : k < ds.length := by omega
    have := ih (by omega) (fun i hi hk => h i hi (by omega))
    rw [size_take hk']
    have := h k hk' (by omega)
    omega
set_option maxHeartbeats 8000000 in
set_option maxRecDepth 100000 in
theorem deltaPlays_main (la aa : Option Addr) (lc ac : Nat) (ds : List DM.Chg) (xs : List (List UInt8)) (w : World) (hl : ds.length ≤ 9223372036854775807) (hxl : xs.length ≤ 9223372036854775807) (hx1 : ∀ i (h : i < xs.length), xs[i].length ≤ 9223372036854775807)
    (hd1 : ∀ i (h : i < ds.length), ds[i].old.length ≤ 9223372036854775807 ∧ ds[i].new.length ≤ 9223372036854775807) (hwf : WfCh ds) (h1 : ChAt (fun _ => True) w la ds) (h2 : TxAt (fun _ => True) false w aa xs) :
    Calls Try.prog 12 #[.slice la ds.length lc, .slice aa xs.length ac] w fun e w' => e = .returned (.bool true) ∧ Below w.heap.size w w' := by
  have hgr := great_any aa xs ac w hxl hx1 h2
  by_cases hg : greatB xs = true
  · rw [hg] at hgr
    replace hgr := Lib.hid hgr
    clear hg h1 h2 hwf hx1 hd1
    go_enter Try.func12, Try.ntmps12
    go_wp2_with (first | (go_at_call 42; refine hgr.out.mono ?_; rintro e w5 ⟨rfl, rfl⟩) | (go_at_call 43; refine (awake23_any _).mono ?_; rintro e w5 ⟨rfl, hb5⟩))
    all_goals go_ret
    all_goals exact ⟨rfl, hb5⟩
  · rw [Bool.not_eq_true] at hg
    rw [hg] at hgr
    obtain ⟨hn, hx⟩ := not_great hg
    replace hgr := Lib.hid hgr
    by_cases h20 : 20 < ds.length
    · have hd20 : decide ((20 : Int) < ds.length) = true := by simp only [decide_eq_true_eq]; omega
      clear hg h1 h2 hwf hx1 hd1
      go_enter Try.func12, Try.ntmps12
      go_wp2_with (first | (go_at_call 42; refine hgr.out.mono ?_; rintro e w5 ⟨rfl, rfl⟩) | (go_at_call 43; refine (awake23_any _).mono ?_; rintro e w5 ⟨rfl, hb5⟩))
      all_goals go_ret
      all_goals exact ⟨rfl, hb5⟩
    · have hd20 : decide ((20 : Int) < ds.length) = false := by simp only [decide_eq_false_iff_not]; omega
      have hd20' : ds.length ≤ 20 := by omega
      replace h1 := Lib.hid h1
      replace h2 := Lib.hid h2
      replace hwf := Lib.hid hwf
      replace hd1 := Lib.hid hd1
      replace hx := Lib.hid hx
      clear hg hx1
      go_enter Try.func12, Try.ntmps12
      go_wp2_with (first | (go_at_call 42; refine hgr.out.mono ?_; rintro e w5 ⟨rfl, rfl⟩))
      go_loopg [5, 6] ds.length (fun g n i wr => ∃ k m : Nat, g = ds.length - k ∧ i = .int .i64 (k : Int) ∧ n = .int .i64 (DM.size (ds.take k) : Nat) ∧ k ≤ ds.length ∧ Few k ds ∧ wr = w.drewN m)
      case atStart => exact ⟨0, 0, rfl, rfl, rfl, by omega, fun i h h' => by omega, rfl⟩
      case round =>
        obtain ⟨k, m, rfl, rfl, rfl, hk, hf, rfl⟩ := hrel
        have hsb := size_bound hk hf
        by_cases hlt : k < ds.length
        · obtain ⟨b, o, oa, oc, na, nc, rfl, _, hbl, k1, k2, k3, k4, _, _, _, _, b3, b4⟩ := h1.out.nth hlt
          obtain ⟨q1, q2⟩ := hd1.out k hlt
          have e1 := size_take hlt
          by_cases ho : 200 < ds[k].old.length
          · clear b3 b4 hf e1
            generalize DM.size (ds.take k) = s at *
            go_wp2_with (go_at_call 43; refine (awake23_any _).mono ?_; rintro e w5 ⟨rfl, hb5⟩)
            all_goals go_ret
            all_goals exact ⟨rfl, bl_trans (bl_drewN (Below.refl _ _) _) hb5⟩
          · have ho' : decide (200 < (ds[k].old.length : Int)) = false := by simp only [decide_eq_false_iff_not]; omega
            by_cases hn' : 200 < ds[k].new.length
            · clear b3 b4 hf e1
              generalize DM.size (ds.take k) = s at *
              go_wp2_with (go_at_call 43; refine (awake23_any _).mono ?_; rintro e w5 ⟨rfl, hb5⟩)
              all_goals go_ret
              all_goals exact ⟨rfl, bl_trans (bl_drewN (Below.refl _ _) _) hb5⟩
            · have hn'' : decide (200 < (ds[k].new.length : Int)) = false := by simp only [decide_eq_false_iff_not]; omega
              have hf' : Few (k + 1) ds := fun i hi hk' => by
                by_cases e : i = k
                · subst e; omega
                · exact hf i hi (by omega)
              have o1 : ds[k].old.length ≤ 200 := by omega
              have n1 : ds[k].new.length ≤ 200 := by omega
              clear b3 b4 hf ho hn'
              replace e1 := Lib.hid e1
              generalize DM.size (ds.take k) = s at *
              have hs8 : s ≤ 8000 := by omega
              have w1 : IntKind.i64.wrap ((s : Int) + (ds[k].old.length : Int)) = (s : Int) + (ds[k].old.length : Int) := IntWalk.i64_in _ (by omega)
              have w2 : IntKind.i64.wrap ((s : Int) + (ds[k].old.length : Int) + (ds[k].new.length : Int)) = (s : Int) + (ds[k].old.length : Int) + (ds[k].new.length : Int) := IntWalk.i64_in _ (by omega)
              go_wp2_with (go_quiet (fail))
              all_goals go_roundg (ds.length - (k + 1))
              case measure => omega
              case rel => exact ⟨k + 1, _, rfl, by go_num, by rw [e1.out]; exact congrArg (Value.int .i64) (by omega), by omega, hf', rfl⟩
        · obtain rfl : k = ds.length := by omega
          have hds : ∀ i (h : i < ds.length), ds[i].old.length ≤ 200 ∧ ds[i].new.length ≤ 200 := fun i h => hf i h h
          have hof := Lib.hid (of_any la lc ds (w.drewN m) (by omega) hwf.out (fun i h => by have := hds i h; omega) (h1.out.below (bl_drewN (Below.refl _ _) _)))
          have hlc := Lib.hid (fun (w1 : World) (hb : Below w.heap.size w w1) => lcopied_any aa ac xs w1 (by omega) (fun i h => by have := hx.out i h; omega) (h2.out.below hb))
          have hX := getD_lens (ds := ds) (xs := xs) hx.out hn (fun c hc => by obtain ⟨i, hi, rfl⟩ := List.mem_iff_getElem.1 hc; exact (hds i hi).2) hd20'
          have hY := getD_lens (ds := ds.reverse.map DM.Chg.turned) (xs := xs) hx.out hn (fun c hc => by
            obtain ⟨c', hc', rfl⟩ := List.mem_map.1 hc
            obtain ⟨i, hi, rfl⟩ := List.mem_iff_getElem.1 (List.mem_reverse.1 hc')
            exact (hds i hi).1) (by simpa using hd20')
          have hA := Lib.hid (fun (w6 : World) (da : Option Addr) (dc : Nat) (hch : ChAt (fun _ => True) w6 da ds) (ht : TxAt (fun _ => True) false w6 aa xs) => (apply_any da aa ds xs dc ac w6 hd20' (fun i h => by have := hds i h; omega) hn (fun i h => by have := hx.out i h; omega) hch ht).mono (fun e w' h => Applied.both h))
          have hU := Lib.hid (fun (w6 : World) (da : Option Addr) (dc : Nat) (hch : ChAt (fun _ => True) w6 da ds) (ht : TxAt (fun _ => True) false w6 aa xs) => (undo_any da aa ds xs dc ac w6 hd20' hds hn (fun i h => by have := hx.out i h; omega) hch ht).mono (fun e w' h => Applied.both h))
          have hRA := Lib.hid (fun (w6 : World) (wa : Option Addr) (wc : Nat) (hch : ChAt (fun _ => True) w6 la ds) (ht : TxAt (fun _ => True) false w6 wa xs) => (rapply_any la wa ds xs lc wc w6 hd20' hds hn (fun i h => by have := hx.out i h; omega) hch ht).mono (fun e w' h => RApplied.both h))
          have hRU := Lib.hid (fun (w6 : World) (wa : Option Addr) (wc : Nat) (hch : ChAt (fun _ => True) w6 la ds) (ht : TxAt (fun _ => True) false w6 wa xs) => (rundo_any la wa ds xs lc wc w6 hd20' hds hn (fun i h => by have := hx.out i h; omega) hch ht).mono (fun e w' h => RApplied.both h))
          have hun : DM.undo ds xs = DM.apply (ds.reverse.map DM.Chg.turned) xs := rfl
          rw [← hun] at hY
          obtain ⟨X, hXe⟩ : ∃ X, (DM.apply ds xs).getD [] = X := ⟨_, rfl⟩
          obtain ⟨Y, hYe⟩ : ∃ Y, (DM.undo ds xs).getD [] = Y := ⟨_, rfl⟩
          obtain ⟨p, hpe⟩ : ∃ p, (DM.apply ds xs).isSome = p := ⟨_, rfl⟩
          obtain ⟨q, hqe⟩ : ∃ q, (DM.undo ds xs).isSome = q := ⟨_, rfl⟩
          rw [hXe] at hX
          rw [hYe] at hY
          simp only [hXe, hpe] at hA hRA
          simp only [hYe, hqe] at hU hRU
          obtain ⟨hX1, hX2⟩ := hX
          obtain ⟨hY1, hY2⟩ := hY
          have hTX := Lib.hid (fun (w8 : World) (ya za : Option Addr) (yc zc : Nat) (ht : TxAt (fun _ => True) false w8 ya X) (ht2 : TxAt (fun _ => True) false w8 za X) => texts_any ya za X X yc zc w8 (by omega) (by omega) (fun i h => by have := hX1 i h; omega) (fun i h => by have := hX1 i h; omega) ht ht2)
          have hTY := Lib.hid (fun (w8 : World) (ya za : Option Addr) (yc zc : Nat) (ht : TxAt (fun _ => True) false w8 ya Y) (ht2 : TxAt (fun _ => True) false w8 za Y) => texts_any ya za Y Y yc zc w8 (by omega) (by omega) (fun i h => by have := hY1 i h; omega) (fun i h => by have := hY1 i h; omega) ht ht2)
          have hTW := Lib.hid (fun (w8 : World) (za : Option Addr) (zc : Nat) (ht : TxAt (fun _ => True) false w8 aa xs) (ht2 : TxAt (fun _ => True) false w8 za xs) => texts_any aa za xs xs ac zc w8 (by omega) (by omega) (fun i h => by have := hx.out i h; omega) (fun i h => by have := hx.out i h; omega) ht ht2)
          have hS := Lib.hid (fun (w8 : World) (da : Option Addr) (dc : Nat) (hch : ChAt (fun _ => True) w8 da ds) (hrh : ChAt (fun _ => True) w8 la ds) => same23_any da la ds ds dc lc w8 (by omega) (by omega) (fun i h => by have := hds i h; omega) (fun i h => by have := hds i h; omega) hch hrh)
          rw [txB_refl] at hTX hTY hTW
          rw [chB_refl] at hS
          rw [List.take_length] at hsb
          have hsz := Lib.hid (fun (w8 : World) (da : Option Addr) (dc : Nat) (hch : ChAt (fun _ => True) w8 da ds) => size_any da ds dc w8 (by omega) (by omega) hch)
          replace hds := Lib.hid hds
          replace hX1 := Lib.hid hX1
          replace hY1 := Lib.hid hY1
          clear hf hun hXe hYe hpe hqe
          rw [List.take_length]
          generalize DM.size ds = sz at *
          go_wp2_with (first | (go_at_call 50; refine hof.out.mono ?_; rintro e w5 ⟨da, dc, rfl, hch5, hb5⟩; have hb05 : Below w.heap.size w w5 := bl_trans (bl_drewN (Below.refl _ _) _) hb5; replace hch5 := Lib.hid hch5) | (go_at_call 51; refine (hlc.out w5 hb05).mono ?_; rintro e w6 ⟨wa, wc, rfl, hw6, hb6⟩; have hb06 := bl_trans hb05 hb6; replace hw6 := Lib.hid hw6))
          have hch6 := Lib.hid (hch5.out.below hb6)
          go_wp2_with (go_at_call 47; refine (hA.out w6 da dc hch6.out (h2.out.below hb06)).mono ?_; rintro e w7 ⟨xa, xc, rfl, ho7, hb7⟩)
          replace ho7 := Lib.hid ho7
          have hb07 := bl_trans hb06 hb7
          have hch7 := Lib.hid (hch6.out.below hb7)
          go_wp2_with (go_at_call 48; refine (hU.out w7 da dc hch7.out (h2.out.below hb07)).mono ?_; rintro e w8 ⟨ya, yc, rfl, ho8, hb8⟩)
          replace ho8 := Lib.hid ho8
          have hb08 := bl_trans hb07 hb8
          have hb68 := bl_trans hb7 hb8
          go_wp2_with (go_at_call 52; refine (hRA.out w8 wa wc (h1.out.below hb08) (hw6.out.below hb68)).mono ?_; rintro e w9 ⟨ua, uc, rfl, ho9, hb9⟩)
          replace ho9 := Lib.hid ho9
          have hb09 := bl_trans hb08 hb9
          have hb69 := bl_trans hb68 hb9
          go_wp2_with (go_at_call 53; refine (hRU.out w9 wa wc (h1.out.below hb09) (hw6.out.below hb69)).mono ?_; rintro e w10 ⟨va, vc, rfl, ho10, hb10⟩)
          replace ho10 := Lib.hid ho10
          have hb0A := bl_trans hb09 hb10
          have hb6A := bl_trans hb69 hb10
          have hb7A := bl_trans (bl_trans hb8 hb9) hb10
          have hb8A := bl_trans hb9 hb10
          have pp : (p != p) = false := by simp
          have qq : (q != q) = false := by simp
          have ss : ((sz : Int) != (sz : Int)) = false := by simp
          have hoX := Lib.hid (OutAt.below ho7.out hb7A)
          go_wp2_with (first | (go_at_call 49; ((with_reducible refine (hTX.out w10 xa ua xc uc hoX.out.tx.any (ho9.out.below hb10)).mono ?_); rintro e w11 ⟨rfl, m11, rfl⟩)) | (go_at_call 49; ((with_reducible refine (hTY.out (w10.drewN m11) ya va yc vc (ho8.out.tx.any.below (bl_drewN hb8A _)) (ho10.out.below (bl_drewN (Below.refl _ _) _))).mono ?_); rintro e w12 ⟨rfl, m12, rfl⟩)) | (go_at_call 54; refine (hsz.out _ da dc (hch6.out.below (bl_drewN hb6A _))).mono ?_; rintro e w13 ⟨rfl, hb13⟩))
          have hbAD : Below w10.heap.size w10 w13 := bl_trans (bl_drewN (Below.refl w10.heap.size w10) _) hb13
          have hb0D := bl_trans hb0A hbAD
          have hb6D := bl_trans hb6A hbAD
          have hle := hb06.size
          have hwr := Lib.hid (WrAt.of ((hoX.out.below hbAD).mono (L := fun b => w6.heap.size ≤ b) (fun b hb => hb)))
          clear hoX hbAD hb13
          go_loopg [17] X.length (fun g i wr => ∃ k : Nat, g = X.length - k ∧ i = .int .i64 (k : Int) ∧ k ≤ X.length ∧ WrAt w6.heap.size wr xa X ∧ Below w6.heap.size w13 wr)
          case atStart => exact ⟨0, rfl, rfl, by omega, hwr.out, Below.mono (Below.refl _ _) hb6D.size⟩
          case round =>
            obtain ⟨k, rfl, rfl, hk, hW, hbW⟩ := hrel
            obtain ⟨wo, rfl⟩ : ∃ wo : World, wo = wr := ⟨_, rfl⟩
            by_cases hlt : k < X.length
            · have hXk := hX1.out k hlt
              obtain ⟨g, ta, tc, rfl, t1, _⟩ := hW.nth hlt
              replace hW := Lib.hid hW
              have hbW' := Lib.hid hbW
              go_wp2_with fail
              go_loopg [18] X[k].length (fun g' i wr => ∃ j : Nat, g' = X[k].length - j ∧ i = .int .i64 (j : Int) ∧ j ≤ X[k].length ∧ WrAt w6.heap.size wr (some ⟨g, 0, none⟩) X ∧ Below w6.heap.size w13 wr)
              case atStart => exact ⟨0, rfl, rfl, by omega, hW.out, hbW'.out⟩
              case round =>
                obtain ⟨j, rfl, rfl, hj, hV, hbV⟩ := hrel
                obtain ⟨g2, ta2, tc2, e2, t2, ht⟩ := hV.nth hlt
                obtain rfl : g = g2 := by injection e2 with e2; injection e2
                by_cases hjl : j < X[k].length
                · obtain ⟨b, o, n, rfl, kb, nb, f2, t3⟩ := ht j hjl
                  replace hV := Lib.hid hV
                  clear ht t1 e2
                  go_wp2_with fail
                  all_goals go_roundg (X[k].length - (j + 1))
                  case measure => omega
                  case rel => exact ⟨j + 1, rfl, by go_num, by omega, hV.out.set nb _, hbV.setCell kb _⟩
                · replace hV := Lib.hid hV
                  clear ht t1 e2
                  go_wp2_with fail
                  all_goals go_roundg (X.length - (k + 1))
                  case measure => omega
                  case rel => exact ⟨k + 1, rfl, by go_num, by omega, hV.out, hbV⟩
            · have hb0W : Below w.heap.size w wo := hb0D.trans (hbW.mono hle)
              have hb6W : Below w6.heap.size w6 wo := hb6D.trans hbW
              clear hW
              go_wp2_with (first | (go_at_call 49; refine (hTW.out wo wa wc (h2.out.below hb0W) (hw6.out.below hb6W)).mono ?_; rintro e w14 ⟨rfl, m14, rfl⟩) | (go_at_call 45; refine (hS.out (wo.drewN m14) da dc (hch6.out.below (bl_drewN hb6W _)) (h1.out.below (bl_drewN hb0W _))).mono ?_; rintro e w15 ⟨rfl, m15, rfl⟩) | (go_at_call 43; refine (awake23_any _).mono ?_; rintro e w16 ⟨rfl, hb16⟩))
              all_goals go_ret
              all_goals exact ⟨rfl, bl_trans (bl_drewN hb0W _) hb16⟩
theorem deltaPlays_walk (W : World) (a0 : Option Addr) (l0 c0 : Nat) (x0 : List Chg0) (r0 : (rSl rChg0).ok (Sub.all W) [.slice a0 l0 c0] x0) (a1 : Option Addr) (l1 c1 : Nat) (x1 : List (List UInt8)) (r1 : (rSl (rSl rByte)).ok (Sub.all W) [.slice a1 l1 c1] x1) :
    Calls Try.prog 12 #[.slice a0 l0 c0, .slice a1 l1 c1] W fun e w' => e = .returned (.bool true) ∧ Below W.heap.size W w' := by
  obtain ⟨rfl, h1, h2, h3, h4⟩ := openCh r0
  obtain ⟨rfl, k1, k2, k3⟩ := openTx r1
  exact deltaPlays_main a0 a1 c0 c1 _ x1 W h1 k1 k3 h4 h2 h3 k2
end Go.Proofs.Ytfbimghnimepjaa
