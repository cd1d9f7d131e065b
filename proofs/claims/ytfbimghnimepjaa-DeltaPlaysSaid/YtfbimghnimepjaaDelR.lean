/-
  The contract of the reference's Between, of chapter 23.
  Conditions: as each theorem states them.
-/
import Derived.Test.YtfbimghnimepjaaDelB
import Derived.Deep.LoopGhost
import Derived.Deep.CutBlock
import Derived.Deep.DeepCutAuto
import Derived.StillTailTactics
namespace Go.Proofs.Ytfbimghnimepjaa
open Go.RowKit
set_option linter.unusedVariables false
set_option linter.unusedSimpArgs false
attribute [local go_sem ↓] run_cut_h run_cut_l run_cut_lh
theorem ByAt.ok {K : Nat → Prop} {own : Bool} {w : World} {a : Option Addr} {xs : List UInt8} (h : ByAt K own w a xs) {c : Nat} (h1 : xs.length ≤ c) (h2 : c ≤ maxLen) : (rSl rByte).ok (Sub.all w) [.slice a xs.length c] xs := by
  refine ⟨a, c, rfl, h1, h2, fun h0 => ?_⟩
  obtain ⟨b, o, e, _, hl, _, r⟩ := h h0
  refine ⟨b, o, e, fun i hi => ⟨[.int .u8 (xs[i].toNat : Int)], rfl, ?_⟩⟩
  have hc := r i hi
  have hb : ∃ c e fr, w.heap[b]? = some (.cells c e fr) ∧ c[o + i]? = some (.int .u8 (xs[i].toNat : Int)) := by
    simp only [World.cell?] at hc
    split at hc
    · rename_i c e fr hh
      exact ⟨c, e, fr, hh, by simpa using hc⟩
    · cases hc
  obtain ⟨cc, e', fr, h3, h4⟩ := hb
  refine ⟨cc, e', fr, h3, fun j hj => ?_⟩
  have hj0 : j = 0 := by simpa using hj
  subst hj0
  simpa [rByte] using h4
theorem infoRC_ : (Try.prog.info? 97).map (fun i => (i.zero, i.size, i.bytes)) = some (some (.agg #[.int .i64 0, .int .i64 0, .slice none 0 0, .slice none 0 0]), 4, 64) := by kernel_rfl
theorem rev_at {x : List UInt8} {u j p : Nat} (hp : p + j = x.length) (hu : u < p) : ∃ h : j < (x.drop u).reverse.length, (x.drop u).reverse[j] = x[p - 1]'(by omega) := by
  refine ⟨by simp; omega, ?_⟩
  rw [List.getElem_reverse, List.getElem_drop]
  congr 1
  simp; omega
theorem rev_end {x : List UInt8} {u j p : Nat} (hp : p + j = x.length) (hu : u = p) : ¬ j < (x.drop u).reverse.length := by simp; omega
set_option maxHeartbeats 8000000 in
set_option maxRecDepth 100000 in
theorem rbetween_any (la lb : Option Addr) (c d : Nat) (xs ys : List (List UInt8)) (w : World) (hl : xs.length = ys.length) (hn : xs.length ≤ 1000) (hx : Lens 100000 xs) (hy : Lens 100000 ys) (h1 : TxAt (fun _ => True) false w la xs) (h2 : TxAt (fun _ => True) false w lb ys) :
    Calls Try.prog 46 #[.slice la xs.length c, .slice lb ys.length d] w fun e w' => ∃ a c', e = .returned (.slice a (DM.betw 0 xs ys).length c') ∧ ChAt (fun _ => True) w' a (DM.betw 0 xs ys) ∧ Below w.heap.size w w' := by
  obtain ⟨i0, hi, hz0, hz1, hz2⟩ := info_parts infoRC_
  have h0 : Bld rChg w.heap.size 97 (Sub.all w) w (.slice none 0 0) [] [] := Bld.nil (Sub.all_in w)
  have hl2 : ys.length ≤ 1000 := by omega
  have hl3 : xs.length ≤ ys.length := by omega
  replace hl := Lib.hid hl
  replace h0 := Lib.hid h0
  replace h1 := Lib.hid h1
  replace h2 := Lib.hid h2
  replace hx := Lib.hid hx
  replace hy := Lib.hid hy
  go_enter Try.func46, Try.ntmps46
  go_wp2_with fail
  go_loopg [5, 6] xs.length (fun g v i wr => ∃ (k : Nat) (css : List (List Value)), g = xs.length - k ∧ i = .int .i64 (k : Int) ∧ k ≤ xs.length ∧ Bld rChg w.heap.size 97 (Sub.all w) wr v (bt xs ys k) css ∧ Below w.heap.size w wr)
  case atStart => exact ⟨0, _, rfl, rfl, by omega, h0.out, Below.refl _ _⟩
  case round =>
    obtain ⟨k, css, rfl, rfl, hk, hB, hbr⟩ := hrel
    by_cases hlt : k < xs.length
    · have hlt2 : k < ys.length := by omega
      obtain ⟨b1, o1, xa, xc, rfl, c1w, x1, x2, hX⟩ := h1.out.nth hlt
      obtain ⟨b2, o2, ya, yc, rfl, c2w, y1, y2, hY⟩ := h2.out.nth hlt2
      have lx := hx.out k hlt
      have ly := hy.out k hlt2
      have l1 := World.block_lt_of_cell? w _ c1w
      have l2 := World.block_lt_of_cell? w _ c2w
      have c1 := (hbr.cell (p := ⟨b1, o1 + k, none⟩) l1).trans c1w
      have c2 := (hbr.cell (p := ⟨b2, o2 + k, none⟩) l2).trans c2w
      have hXr := hX.below hbr
      have hYr := hY.below hbr
      have hkI : (k : Int) < ys.length := by omega
      have hkX : (k : Int) < xs.length := by omega
      have hsm := fun n => same_any xa ya xs[k] ys[k] xc yc (wr.drewN n) (by omega) (by omega) (hXr.drewN n) (hYr.drewN n)
      obtain ⟨wo, rfl⟩ : ∃ wo : World, wo = wr := ⟨_, rfl⟩
      have s1 := Lib.hid (fun (W : World) (hb : Below w.heap.size w W) => (⟨(hb.cell (p := ⟨b1, o1 + k, none⟩) l1).trans c1w, (hb.cell (p := ⟨b2, o2 + k, none⟩) l2).trans c2w⟩ : W.cell? ⟨b1, o1 + k, none⟩ = some (.slice xa xs[k].length xc) ∧ W.cell? ⟨b2, o2 + k, none⟩ = some (.slice ya ys[k].length yc)))
      clear c1w c2w l1 l2
      by_cases he : xs[k] = ys[k]
      · rw [eqB_true.2 he] at hsm
        have hbt := bt_same hl.out hlt hlt2 he
        replace hsm := Lib.hid hsm
        replace hbt := Lib.hid hbt
        replace hB := Lib.hid hB
        clear hX hY hXr hYr he
        go_wp2_with (go_quiet ((go_at_call 37; exact quiet_n hsm.out)))
        all_goals go_roundg (xs.length - (k + 1))
        case measure => omega
        case rel => exact ⟨k + 1, css, rfl, by go_num, by omega, by rw [hbt.out]; exact hB.out.below (bl_drewN (Below.refl _ _) _), bl_drewN hbr _⟩
      · rw [eqB_false.2 he] at hsm
        have hbt := bt_diff hl.out hlt hlt2 he
        have g1 := DM.cpre_le_left xs[k] ys[k]
        have g2 := DM.cpre_le_right xs[k] ys[k]
        have g3 := DM.csuf_le xs[k] ys[k]
        replace hX := Lib.hid hX
        replace hY := Lib.hid hY
        replace hXr := Lib.hid hXr
        replace hYr := Lib.hid hYr
        replace hsm := Lib.hid hsm
        replace hbt := Lib.hid hbt
        replace hB := Lib.hid hB
        replace he := Lib.hid he
        generalize hvx : xs[k] = x at *
        generalize hvy : ys[k] = y at *
        replace hvx := Lib.hid hvx
        replace hvy := Lib.hid hvy
        go_upto_block 2 with (go_quiet ((go_at_call 37; exact quiet_n hsm.out)))
        go_cut [7] (fun f wx => ∃ m, f = .int .i64 (DM.cpre x y : Nat) ∧ wx = wo.drewN m)
        case first =>
          go_wp2_with fail
          go_loopg [7] x.length (fun g f wr => ∃ j m : Nat, g = x.length - j ∧ f = .int .i64 (j : Int) ∧ j ≤ x.length ∧ j ≤ y.length ∧ Alike j x y ∧ wr = wo.drewN m)
          case atStart => exact ⟨0, _, rfl, rfl, by omega, by omega, Alike.zero _ _, rfl⟩
          case round =>
            obtain ⟨j, m, rfl, rfl, hj1, hj2, hal, rfl⟩ := hrel
            by_cases q1 : j < x.length
            · obtain ⟨b3, o3, rfl, d3⟩ := hXr.out.cell q1
              by_cases q2 : j < y.length
              · obtain ⟨b4, o4, rfl, d4⟩ := hYr.out.cell q2
                by_cases q3 : x[j] = y[j]
                · have e3 := byte_eq q3
                  have hal' := hal.succ q1 q2 q3
                  clear hal
                  replace q3 := Lib.hid q3
                  go_wp2_with (go_quiet (fail))
                  all_goals go_roundg (x.length - (j + 1))
                  case measure => omega
                  case rel => exact ⟨j + 1, _, rfl, by go_num, by omega, by omega, hal', rfl⟩
                · have e3 := byte_ne q3
                  have hc := hal.cpre (fun _ _ => q3)
                  clear hal
                  replace hc := Lib.hid hc
                  replace q3 := Lib.hid q3
                  go_wp2_with (go_quiet (fail))
                  all_goals go_meet
                  all_goals exact (dn _ _ _).imp fun _ h => ⟨by rw [hc.out], h⟩
              · have hd : decide (j < y.length) = false := by simpa using q2
                have hc := hal.cpre (fun _ h => absurd h q2)
                clear hal
                replace hc := Lib.hid hc
                go_wp2_with (go_quiet (fail))
                all_goals go_meet
                all_goals exact (dn _ _ _).imp fun _ h => ⟨by rw [hc.out], h⟩
            · have hd : decide (j < x.length) = false := by simpa using q1
              have hc := hal.cpre (fun h _ => absurd h q1)
              clear hal
              replace hc := Lib.hid hc
              go_wp2_with (go_quiet (fail))
              all_goals go_meet
              all_goals exact (dn _ _ _).imp fun _ h => ⟨by rw [hc.out], h⟩
        case rest =>
          obtain ⟨m1, rfl, rfl⟩ := hcut
          obtain ⟨u, hu⟩ : ∃ u, DM.cpre x y = u := ⟨_, rfl⟩
          rw [hu] at g1 g2 g3 ⊢
          obtain ⟨n, hnn⟩ : ∃ n, DM.csuf x y = n := ⟨_, rfl⟩
          rw [hnn] at g3
          have hcs : ∀ j, Alike j (x.drop u).reverse (y.drop u).reverse → (∀ (h1 : j < (x.drop u).reverse.length) (h2 : j < (y.drop u).reverse.length), (x.drop u).reverse[j] ≠ (y.drop u).reverse[j]) → n = j := fun j ha hne => by
            have := ha.cpre hne
            rw [← hnn, ← this, ← hu]; rfl
          replace hcs := Lib.hid hcs
          replace hu := Lib.hid hu
          replace hnn := Lib.hid hnn
          go_upto_block 4 with (go_quiet (fail))
          go_cut [8, 9] (fun vp vq wx => ∃ m, vp = .int .i64 ((x.length - n : Nat) : Int) ∧ vq = .int .i64 ((y.length - n : Nat) : Int) ∧ wx = wo.drewN m)
          case first =>
            go_wp2_with fail
            go_loopg [8, 9] x.length (fun g vp vq wr => ∃ j m p q : Nat, g = p ∧ vp = .int .i64 (p : Int) ∧ vq = .int .i64 (q : Int) ∧ p + j = x.length ∧ q + j = y.length ∧ u ≤ p ∧ u ≤ q ∧ Alike j (x.drop u).reverse (y.drop u).reverse ∧ wr = wo.drewN m)
            case atStart => exact ⟨0, _, _, _, rfl, rfl, rfl, rfl, rfl, by omega, by omega, Alike.zero _ _, World.drewN_drewN _ _ _⟩
            case round =>
              obtain ⟨j, m, p, q, rfl, rfl, rfl, hpj, hqj, hup, huq, hal, rfl⟩ := hrel
              by_cases q1 : u < gk
              · obtain ⟨b3, o3, rfl, d3⟩ := hXr.out.cell (i := gk - 1) (by omega)
                by_cases q2 : u < q
                · obtain ⟨b4, o4, rfl, d4⟩ := hYr.out.cell (i := q - 1) (by omega)
                  obtain ⟨r1, r2⟩ := rev_at hpj q1
                  obtain ⟨s1, s2⟩ := rev_at hqj q2
                  have i1 : ((gk - 1 : Nat) : Int) < x.length := by omega
                  have i2 : ((q - 1 : Nat) : Int) < y.length := by omega
                  have i3 : gk - 1 < x.length := by omega
                  have i4 : q - 1 < y.length := by omega
                  have w1 : IntKind.i64.wrap ((gk : Int) - 1) = ((gk - 1 : Nat) : Int) := by rw [IntWalk.i64_in _ (by omega)]; omega
                  have w2 : IntKind.i64.wrap ((q : Int) - 1) = ((q - 1 : Nat) : Int) := by rw [IntWalk.i64_in _ (by omega)]; omega
                  have w3 : wrap64 ((gk : Int) - 1) = ((gk - 1 : Nat) : Int) := by unfold wrap64; omega
                  have w4 : wrap64 ((q : Int) - 1) = ((q - 1 : Nat) : Int) := by unfold wrap64; omega
                  by_cases q3 : x[gk - 1] = y[q - 1]
                  · have e3 := byte_eq q3
                    have hal' := hal.succ r1 s1 (by rw [r2, s2]; exact q3)
                    clear hal r2 s2
                    replace q3 := Lib.hid q3
                    replace hpj := Lib.hid hpj
                    replace hqj := Lib.hid hqj
                    go_wp2_with (go_quiet (fail))
                    all_goals go_roundg (gk - 1)
                    case measure => omega
                    case rel => exact ⟨j + 1, _, gk - 1, q - 1, rfl, by go_num, by go_num, by have := hpj.out; omega, by have := hqj.out; omega, by omega, by omega, hal', rfl⟩
                  · have e3 := byte_ne q3
                    have hc := hcs.out j hal (fun _ _ => by rw [r2, s2]; exact q3)
                    clear hal r2 s2
                    replace q3 := Lib.hid q3
                    have f1 : gk = x.length - n := by omega
                    have f2 : q = y.length - n := by omega
                    replace f1 := Lib.hid f1
                    replace f2 := Lib.hid f2
                    replace hc := Lib.hid hc
                    replace hpj := Lib.hid hpj
                    replace hqj := Lib.hid hqj
                    go_wp2_with (go_quiet (fail))
                    all_goals go_meet
                    all_goals exact (dn _ _ _).imp fun _ h => ⟨by rw [← f1.out], by rw [← f2.out], h⟩
                · have hd : decide (u < q) = false := by simpa using q2
                  have hc := hcs.out j hal (fun _ h => absurd h (rev_end hqj (by omega)))
                  have f1 : gk = x.length - n := by omega
                  have f2 : q = y.length - n := by omega
                  clear hal
                  replace f1 := Lib.hid f1
                  replace f2 := Lib.hid f2
                  replace hc := Lib.hid hc
                  replace hpj := Lib.hid hpj
                  replace hqj := Lib.hid hqj
                  go_wp2_with (go_quiet (fail))
                  all_goals go_meet
                  all_goals exact (dn _ _ _).imp fun _ h => ⟨by rw [← f1.out], by rw [← f2.out], h⟩
              · have hd : decide (u < gk) = false := by simpa using q1
                have hc := hcs.out j hal (fun h _ => absurd h (rev_end hpj (by omega)))
                have f1 : gk = x.length - n := by omega
                have f2 : q = y.length - n := by omega
                clear hal
                replace f1 := Lib.hid f1
                replace f2 := Lib.hid f2
                replace hc := Lib.hid hc
                replace hpj := Lib.hid hpj
                replace hqj := Lib.hid hqj
                go_wp2_with (go_quiet (fail))
                all_goals go_meet
                all_goals exact (dn _ _ _).imp fun _ h => ⟨by rw [← f1.out], by rw [← f2.out], h⟩
          case rest =>
            obtain ⟨m2, rfl, rfl, rfl⟩ := hcut
            have e1 : ((x.drop u).take (x.length - u - n)).length = x.length - n - u := by rw [List.length_take, List.length_drop]; omega
            have e2 : ((y.drop u).take (y.length - u - n)).length = y.length - n - u := by rw [List.length_take, List.length_drop]; omega
            have ok5 := ((hX.out.any.drop x1 u).take (x.length - u - n)).ok (c := xc - u) (by rw [e1]; omega) (by unfold maxLen at x2 ⊢; omega)
            have ok6 := ((hY.out.any.drop y1 u).take (y.length - u - n)).ok (c := yc - u) (by rw [e2]; omega) (by unfold maxLen at y2 ⊢; omega)
            rw [e1] at ok5
            rw [e2] at ok6
            have hone : DM.one k x y = ⟨(k : Int), (u : Int), (x.drop u).take (x.length - u - n), (y.drop u).take (y.length - u - n)⟩ := by
              unfold DM.one; rw [hu.out, hnn.out]
            rw [hone] at hbt
            have hts : (bt xs ys k).length ≤ 1000 := by have := bt_len xs ys k; omega
            have f1 : (Lit.int .i64 (k : Int)).wf = true := wf64 (by omega) (by omega)
            have f2 : (Lit.int .i64 (u : Int)).wf = true := wf64 (by omega) (by omega)
            generalize (x.drop u).take (x.length - u - n) = old at *
            generalize (y.drop u).take (y.length - u - n) = new at *
            generalize bt xs ys k = ts at *
            obtain ⟨p, hp⟩ : ∃ p, x.length - n = p := ⟨_, rfl⟩
            obtain ⟨q, hq⟩ : ∃ q, y.length - n = q := ⟨_, rfl⟩
            have z1 : u ≤ p := by omega
            have z2 : u ≤ q := by omega
            have z3 : p ≤ xc := by omega
            have z4 : q ≤ yc := by omega
            rw [hp] at ok5 ⊢
            rw [hq] at ok6 ⊢
            have z5 : (u : Int) ≤ p := by omega
            have z6 : (u : Int) ≤ q := by omega
            have z7 : (p : Int) ≤ xc := by omega
            have z8 : (q : Int) ≤ yc := by omega
            have m1' : ts.length + 1 ≤ maxLen := by unfold maxLen; omega
            have m2' : (ts.length + 1) * 64 ≤ 140737488355328 := by omega
            have hBd := Lib.hid (fun (W : World) (hb : Below wo.heap.size wo W) => hB.out.below hb)
            have hbr' := Lib.hid hbr
            replace hp := Lib.hid hp
            replace hq := Lib.hid hq
            replace hone := Lib.hid hone
            replace e1 := Lib.hid e1
            replace e2 := Lib.hid e2
            replace ok5 := Lib.hid ok5
            replace ok6 := Lib.hid ok6
            replace f1 := Lib.hid f1
            replace f2 := Lib.hid f2
            clear hcs hB hX hY hXr hYr hsm
            go_wp2_with fail
            obtain ⟨W0, hW0⟩ : ∃ W0, wo.drewN m2 = W0 := ⟨_, rfl⟩
            have hbd : Below wo.heap.size wo W0.drew := by rw [← hW0]; exact bl_drew (bl_drewN (Below.refl _ _) _)
            have hz : W0.heap.size = wo.heap.size := by rw [← hW0]; simp
            rw [hW0]
            have kk := s1.out _ (bl_trans hbr hbd)
            replace hW0 := Lib.hid hW0
            replace hz := Lib.hid hz
            clear c1 c2
            go_region_held3 (fun w' => w'.cell? ⟨b1, o1 + k, none⟩ = some (.slice xa x.length xc) ∧ w'.cell? ⟨b2, o2 + k, none⟩ = some (.slice ya y.length yc)) (first | exact kk | exact s1.out _ (bl_trans hbr'.out (bl_alloc hbd _)) | exact s1.out _ hs7)
              (first
              | (have hB6 := hBd.out (W0.drew.alloc (.cells #[.int .i64 (k : Int), .int .i64 (u : Int), .slice (cutA xa u xc 1) (p - u) (xc - u), .slice (cutA ya u yc 1) (q - u) (yc - u)] 97)) (bl_alloc hbd _); refine step_append_lies _ (by rfl) (.tmp 101) (.tmp 119) 91 (by rfl) w.heap.size 97 i0 _ 4 64 Try.underlying91 hi hz0 hz1 hz2 (by rfl) (Nat.zero_lt_succ 3) _ ts.length _ (by rfl) hB6.own ⟨W0.heap.size, 0, none⟩ 1 1 [.int .i64 (k : Int), .int .i64 (u : Int), .slice (cutA xa u xc 1) (p - u) (xc - u), .slice (cutA ya u yc 1) (q - u) (yc - u)] (by rfl) (by rfl) (World.news_of_block (heap_alloc_new W0.drew _)) (one4 _ _ _ _ _ _ _ _) Nat.zero_lt_one m1' m2' (Nat.le_trans hbr'.out.size (bl_alloc hbd _).size) (W0.heap.size + 1) (World.size_alloc _ _) ?_; intro g cap w7 hown7 hgrow7 hat7 hlt7; have hs7 := (bl_trans hbr'.out (bl_alloc hbd _)).grown hgrow7 (bl_trans hbr'.out (bl_alloc hbd _)).size (fun j hj => (hB6.own.lt j hj).1); have hB7 := hB6.snoc (x := (⟨(k : Int), (u : Int), old, new⟩ : DM.Chg)) (rChg_ok f1.out f2.out ok5.out ok6.out) hown7 rfl hgrow7 (lies_own' hat7); replace hB7 := Lib.hid hB7; clear hB6 hown7 hat7))
            have hB8 := hB7.out
            rw [← hbt.out] at hB8
            replace hB8 := Lib.hid hB8
            clear hB7
            all_goals go_wp2_with fail
            all_goals go_roundg (xs.length - (k + 1))
            case measure => omega
            case rel => exact ⟨k + 1, _, rfl, by go_num, by omega, hB8.out, hs7⟩
    · obtain rfl : k = xs.length := by omega
      rw [bt_all hl.out] at hB
      obtain ⟨a, c5, rfl, _⟩ := hB.form
      obtain ⟨T, _, hTin, _, hT⟩ := hB.done
      obtain ⟨a', c', e, _, _, hch⟩ := ChAt.of_sub hTin hT
      obtain ⟨rfl, _, rfl⟩ : a = a' ∧ True ∧ c5 = c' := by injection e with e1 e2 e3; exact ⟨e1, trivial, e3⟩
      replace hch := Lib.hid hch
      clear hB hT e
      go_wp2_with fail
      all_goals go_ret
      all_goals exact ⟨a, c5, rfl, hch.out.any, hbr⟩
end Go.Proofs.Ytfbimghnimepjaa
