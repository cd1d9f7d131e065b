/-
  The reference's both and either; of chapter 27. (Printed by gen_rq4.py.)
  Conditions: as each theorem states them.
-/
import Derived.Test.YtcjcflmnghhbaaaGreatRqA
import Derived.Test.YtcjcflmnghhbaaaGreatCondSab
namespace Go.Proofs.YtcjcflmnghhbaaaGreat
open Go.RowKit
set_option linter.unusedVariables false
set_option linter.unusedSimpArgs false
open CM (Pc Ps)
set_option maxHeartbeats 8000000 in
set_option maxRecDepth 100000 in
theorem rboth_step {s : List UInt8} {n : Nat} (hs : s.length ≤ 4096) (hn : n ≤ 20000) (IH : ∀ m, m ≤ n → RPart s m) : RBoth s (n + 1) := fun p w g nn h hgn hsg hok hmu => by
  have hgw := h.lt
  have hbA : Below w.heap.size w (w.alloc (.cells zeroN.toArray 81)) := bl_alloc (Below.refl _ _) _
  have hin := Lib.hid (IH n (Nat.le_refl _) p (w.alloc (.cells zeroN.toArray 81)) g nn (h.below hbA) hgn hsg hok (by omega))
  obtain ⟨R, hR⟩ : ∃ R, CM.run s (n + 1) .both p = R := ⟨_, rfl⟩
  rw [hR]
  have hfst := Lib.hid (fun w3 c o hc hm => both_first (w3 := w3) (c := c) hR hgw hok hmu o hc hm)
  replace IH := Lib.hid IH
  replace hR := Lib.hid hR
  obtain ⟨W1, hW1⟩ : ∃ W1, w.alloc (.cells zeroN.toArray 81) = W1 := ⟨_, rfl⟩
  rw [hW1] at hin hfst
  replace hW1 := Lib.hid hW1
  unfold zeroN nodeC at hW1
  clear h hbA hsg hmu hgn
  obtain ⟨D, hD⟩ : ∃ D, p.deep = D := ⟨_, rfl⟩
  rw [hD] at hin hfst ⊢
  replace hok := Lib.hid hok
  go_enter Tryz.func58, Tryz.ntmps58
  go_upto_region 1 with fail
  rw [hW1.out]
  go_upto_block 0 with (go_at_call 70; refine hin.out.mono ?_; rintro e w3 ⟨hO, v, rfl, hsv, hm⟩; replace hfst := Lib.hid (hfst.out w3 v hO hsv hm); clear hm hO; obtain ⟨xw, xa, xn, xc, xs, xm, xb, xbn, xbc, rfl⟩ := hsv; unfold nodeC at hfst ⊢)
  have hst : BothRel s g D n R w w.heap.size (w3.heap.size + 1) n ((w3.alloc (.cells #[strV xw, .slice xa xn xc, strV xs, .int .i64 xm, .slice xb xbn xbc] 81)).alloc (.cells #[.string ⟨#[97, 110, 100]⟩, .slice (some ⟨w3.heap.size, 0, none⟩) 1 1, .string ⟨#[]⟩, .int .i64 0, .slice none 0 0] 81)) := hfst.out
  generalize World.alloc (World.alloc w3 _) _ = W5 at *
  obtain ⟨nb, hnb⟩ : ∃ nb, w3.heap.size + 1 = nb := ⟨_, rfl⟩
  rw [hnb] at hst ⊢
  replace hst := Lib.hid hst
  obtain ⟨i0, hi, hz0, hz1, hz2⟩ := info_parts infoNode
  go_wp2_with fail
  go_loopg [] n (fun gh wr => ∃ m, gh = m ∧ Hid (BothRel s g D n R w w.heap.size nb m wr))
  case atStart => exact ⟨n, rfl, hst⟩
  case round =>
    obtain ⟨gh, hgm, hrel⟩ := hrel
    replace hgm := hgm.symm
    subst hgm
    obtain ⟨v, css, hM, hcl, hrel⟩ := hrel.out
    obtain ⟨la, ln, lc, rfl, hnbk⟩ := hM.cells
    have hgr : g < wr.heap.size := Nat.lt_of_lt_of_le hgw hM.only.size
    obtain ⟨o1, o2, o3, o4, o5⟩ := hM.ord
    have hc0 : 0 < css.length := List.length_pos_iff.2 o5
    have key : (∃ k, gh = k + 1 ∧ Calls Tryz.prog 59 #[.pointer (some ⟨g, 0, none⟩), .int .i64 1, .string ⟨#[97, 110, 100]⟩] wr fun e w5 => e = .returned (.bool true) ∧ Oly g wr w5 ∧ Calls Tryz.prog 70 #[.pointer (some ⟨g, 0, none⟩)] w5.drew fun e w6 => ∃ c : List Value, e = .returned (.agg c.toArray) ∧ SomeN c ∧ Oly g w5.drew w6 ∧ BothIn s g D k R w.heap.size nb (.slice la ln lc) css wr w5.drew w6 c) ∨
      (Calls Tryz.prog 59 #[.pointer (some ⟨g, 0, none⟩), .int .i64 1, .string ⟨#[97, 110, 100]⟩] wr fun e w' => e = .returned (.bool false) ∧ wr = w') ∧ ((∃ l phi q, NGood s g D (w.heap.size + 1) w.heap.size nb (.slice la ln lc) wr wr css q l ∧ R = .ok (phi, q) ∧ ∀ a b, phi a b = l.all fun p => p.2 a b) ∨ ∃ a x, R = .error (a, x) ∧ Bad wr g s D a x) := by
      rcases hrel with ⟨l, phi, q, hq, hrun, hall, hm⟩ | ⟨a, x, hR2, hB⟩
      · obtain ⟨k, rfl⟩ : ∃ k, gh = k + 1 := ⟨gh - 1, by omega⟩
        by_cases hi1 : q.pc.is 1 CM.andW = true
        · refine .inl ⟨k, rfl, (ris_yes s hs q hq.ok.le _ wr g hq.good (by omega) 1 CM.andW (by rw [rIs_word]; exact hi1)).mono ?_⟩
          rintro e w5 ⟨h1, h2, h3⟩
          exact ⟨h1, h2, both_inner (IH.out k (by omega)) hq hrun hall hm hi1 hgr h2 h3⟩
        · refine .inr ⟨ris_no s q _ wr g hq.good 1 CM.andW (by rw [rIs_word]; simpa using hi1), .inl ⟨l, phi, q, hq, ?_, hall⟩⟩
          simp only [CM.run] at hrun
          rw [if_neg hi1] at hrun
          exact hrun.symm
      · exact .inr ⟨ris_bad hB 1 CM.andW, .inr ⟨a, x, hR2, hB⟩⟩
    clear hrel IH hfst hin hst
    rcases key with ⟨k, rfl, his⟩ | ⟨his, hE⟩
    · replace his := Lib.hid his
      replace hM := Lib.hid hM
      replace hnbk := Lib.hid hnbk
      go_upto_region 3 with (go_at_call 59; (with_reducible refine his.out.mono ?_); rintro e w5 ⟨rfl, hO5, hin5⟩; replace hin5 := Lib.hid hin5)
      have hb5 : Blk w5.drew nb 81 (nodeC CM.andW la ln lc [] 0 none 0 0) := (hnbk.out.only hO5 (by show ¬ nb = g; omega)).drew
      have hOd : Oly g wr w5.drew := Only.trans hO5 (drewOly g w5)
      have j1 : w5.drew.cell? ⟨nb, 1, none⟩ = some (.slice la ln lc) := hb5.cell 1
      have lt5 := hb5.lt
      have g5 := hO5.size
      have hcon := Lib.hid (fun (w6 : World) (c : List Value) (hO6 : Oly g w5.drew w6) (hS6 : SomeN c) (hJ6 : BothIn s g D k R w.heap.size nb (.slice la ln lc) css wr w5.drew w6 c) => (⟨(hb5.only hO6 (by show ¬ nb = g; omega)).cell 1, (hb5.only hO6 (by show ¬ nb = g; omega)).lt,
        Lib.hid ((nrow_only (nrow_only hM.out.row hOd (fun r hr e => hM.out.apart.2.2 (by rw [hr, e]))) hO6 (fun r hr e => hM.out.apart.2.2 (by rw [hr, e]))).alloc (.cells c.toArray 81)),
        Lib.hid (fun j u (hj : c[j]? = some u) => node_new w6 w6.heap.size rfl 81 c j u hj), Lib.hid hS6.one, Lib.hid hS6.len, Lib.hid (by have := hO6.size; have : w5.drew.heap.size = w5.heap.size := rfl; rw [size_alloc']; omega),
        Lib.hid (fun v2 w7 ho hg hv => both_push (w7 := w7) (v2 := v2) hM.out hcl hOd hO6 hS6 hJ6 hg ho hv)⟩ :
        w6.cell? ⟨nb, 1, none⟩ = some (.slice la ln lc) ∧ nb < w6.heap.size ∧ Hid ((w6.alloc (.cells c.toArray 81)).ownsRow w.heap.size 81 5 (.slice la ln lc) css.length css.flatten) ∧ Hid (∀ j u, c[j]? = some u → (w6.alloc (.cells c.toArray 81)).cell? ((⟨w6.heap.size, 0, none⟩ : Addr).add j) = some u) ∧ Hid (∀ u ∈ c, u.oneCell' = true) ∧ Hid (c.length = 5) ∧ Hid (w.heap.size ≤ (w6.alloc (.cells c.toArray 81)).heap.size) ∧
        Hid (∀ v2 w7, w7.ownsRow w.heap.size 81 5 v2 (css.length + 1) (css.flatten ++ c) → (w6.alloc (.cells c.toArray 81)).grownBy w7 (Value.slice la ln lc).ownBlock → (v2.ownBlock = (Value.slice la ln lc).ownBlock ∨ v2.ownBlock = some (w6.alloc (.cells c.toArray 81)).heap.size) → BothRel s g D n R w w.heap.size nb k (w7.setCell ⟨nb, 1, none⟩ v2) ∧ w7.cell? ⟨nb, 1, none⟩ = some (.slice la ln lc) ∧ w7.frozen? ⟨nb, 1, none⟩ = false ∧ nb < w7.heap.size)))
      clear hb5 hOd hM hnbk hO5
      go_region_law (first
        | (go_simp; go_at_call 70; (with_reducible refine hin5.out.mono ?_); rintro e w6 ⟨c, rfl, hS6, hO6, hJ6⟩; obtain ⟨u1, u2, hro, hsr, hone, hln, hbs, hpu⟩ := hcon.out w6 c hO6 hS6 hJ6; clear hJ6 hO6; obtain ⟨yw, ya, yn, yc, ys, ym, yb, ybn, ybc, rfl⟩ := hS6; unfold nodeC at hro hsr hone hbs hpu ⊢)
        | (rw [if_pos (by rfl)]; refine wp_append_on (.tmp 11) (.tmp 14) 79 (by rfl) w.heap.size 81 i0 _ 5 88 Tryz.underlying79 hi hz0 hz1 hz2 (by rfl) (by decide) _ css.length css.flatten (by rfl) hro.out ⟨w6.heap.size, 0, none⟩ 1 1 _ (by rfl) hsr.out rfl hone.out (by unfold maxLen; omega) (by omega) hbs.out ?_; intro v2 w7 ho7 hg7 hv7; obtain ⟨r1, r2, r3, r4⟩ := hpu.out v2 w7 ho7 hg7 hv7; obtain ⟨a7, c7, rfl⟩ := own_slice' ho7; replace r1 := Lib.hid r1; clear ho7 hg7 hv7))
      all_goals go_wp2_with fail
      all_goals go_roundg k
      all_goals (first | omega | exact ⟨k, rfl, r1⟩)
    · replace his := Lib.hid his
      have hend := Lib.hid (both_end hM (by omega) hE)
      have hT5 := hM.res
      have n0 := hnbk.cell 0
      have n1 := hnbk.cell 1
      have n2 := hnbk.cell 2
      have n3 := hnbk.cell 3
      have n4 := hnbk.cell 4
      have x0 := hT5.cell 0
      have x1 := hT5.cell 1
      have x2 := hT5.cell 2
      have x3 := hT5.cell 3
      have x4 := hT5.cell 4
      unfold zeroN nodeC at x0 x1 x2 x3 x4
      unfold nodeC CM.andW at n0 n1 n2 n3 n4
      simp only [List.getElem?_cons_zero, List.getElem?_cons_succ] at n0 n1 n2 n3 n4 x0 x1 x2 x3 x4
      have y0 := hT5.free 0
      have y1 := hT5.free 1
      have y2 := hT5.free 2
      have y3 := hT5.free 3
      have y4 := hT5.free 4
      have ln5 := hnbk.lt
      have lt5 := hT5.lt
      clear hM hE hnbk hT5
      unfold nodeC CM.andW at hend
      go_wp2_with (go_at_call 59; (with_reducible refine his.out.mono ?_); rintro e w6 ⟨rfl, rfl⟩)
      obtain ⟨o6, hfin⟩ := hend.out
      have e0 := o6.cell 0
      have e1 := o6.cell 1
      have e2 := o6.cell 2
      have e3 := o6.cell 3
      have e4 := o6.cell 4
      simp only [List.getElem?_cons_zero, List.getElem?_cons_succ] at e0 e1 e2 e3 e4
      clear o6
      have hfin2 : ROut s g D R w (.returned (.agg #[.string ⟨#[97, 110, 100]⟩, .slice la ln lc, .string ⟨#[]⟩, .int .i64 0, .slice none 0 0])) (((((wr.setCell ⟨w.heap.size, 0, none⟩ (.string ⟨#[97, 110, 100]⟩)).setCell ⟨w.heap.size, 1, none⟩ (.slice la ln lc)).setCell ⟨w.heap.size, 2, none⟩ (.string ⟨#[]⟩)).setCell ⟨w.heap.size, 3, none⟩ (.int .i64 0)).setCell ⟨w.heap.size, 4, none⟩ (.slice none 0 0)) := hfin
      refine bodyPost_ret (v := .agg #[.string ⟨#[97, 110, 100]⟩, .slice la ln lc, .string ⟨#[]⟩, .int .i64 0, .slice none 0 0]) ?_ rfl hfin2
      simp [results, Tryz.results58, go_sem, e0, e1, e2, e3, e4]
set_option maxHeartbeats 8000000 in
set_option maxRecDepth 100000 in
theorem reither_step {s : List UInt8} {n : Nat} (hs : s.length ≤ 4096) (hn : n ≤ 20000) (IH : ∀ m, m ≤ n → RBoth s m) : REither s (n + 1) := fun p w g nn h hgn hsg hok hmu => by
  have hgw := h.lt
  have hbA : Below w.heap.size w (w.alloc (.cells zeroN.toArray 81)) := bl_alloc (Below.refl _ _) _
  have hin := Lib.hid (IH n (Nat.le_refl _) p (w.alloc (.cells zeroN.toArray 81)) g nn (h.below hbA) hgn hsg hok (by omega))
  obtain ⟨R, hR⟩ : ∃ R, CM.run s (n + 1) .either p = R := ⟨_, rfl⟩
  rw [hR]
  have hfst := Lib.hid (fun w3 c o hc hm => either_first (w3 := w3) (c := c) hR hgw hok hmu o hc hm)
  replace IH := Lib.hid IH
  replace hR := Lib.hid hR
  obtain ⟨W1, hW1⟩ : ∃ W1, w.alloc (.cells zeroN.toArray 81) = W1 := ⟨_, rfl⟩
  rw [hW1] at hin hfst
  replace hW1 := Lib.hid hW1
  unfold zeroN nodeC at hW1
  clear h hbA hsg hmu hgn
  obtain ⟨D, hD⟩ : ∃ D, p.deep = D := ⟨_, rfl⟩
  rw [hD] at hin hfst ⊢
  replace hok := Lib.hid hok
  go_enter Tryz.func35, Tryz.ntmps35
  go_upto_region 1 with fail
  rw [hW1.out]
  go_upto_block 0 with (go_at_call 58; refine hin.out.mono ?_; rintro e w3 ⟨hO, v, rfl, hsv, hm⟩; replace hfst := Lib.hid (hfst.out w3 v hO hsv hm); clear hm hO; obtain ⟨xw, xa, xn, xc, xs, xm, xb, xbn, xbc, rfl⟩ := hsv; unfold nodeC at hfst ⊢)
  have hst : EitherRel s g D n R w w.heap.size (w3.heap.size + 1) n ((w3.alloc (.cells #[strV xw, .slice xa xn xc, strV xs, .int .i64 xm, .slice xb xbn xbc] 81)).alloc (.cells #[.string ⟨#[111, 114]⟩, .slice (some ⟨w3.heap.size, 0, none⟩) 1 1, .string ⟨#[]⟩, .int .i64 0, .slice none 0 0] 81)) := hfst.out
  generalize World.alloc (World.alloc w3 _) _ = W5 at *
  obtain ⟨nb, hnb⟩ : ∃ nb, w3.heap.size + 1 = nb := ⟨_, rfl⟩
  rw [hnb] at hst ⊢
  replace hst := Lib.hid hst
  obtain ⟨i0, hi, hz0, hz1, hz2⟩ := info_parts infoNode
  go_wp2_with fail
  go_loopg [] n (fun gh wr => ∃ m, gh = m ∧ Hid (EitherRel s g D n R w w.heap.size nb m wr))
  case atStart => exact ⟨n, rfl, hst⟩
  case round =>
    obtain ⟨gh, hgm, hrel⟩ := hrel
    replace hgm := hgm.symm
    subst hgm
    obtain ⟨v, css, hM, hcl, hrel⟩ := hrel.out
    obtain ⟨la, ln, lc, rfl, hnbk⟩ := hM.cells
    have hgr : g < wr.heap.size := Nat.lt_of_lt_of_le hgw hM.only.size
    obtain ⟨o1, o2, o3, o4, o5⟩ := hM.ord
    have hc0 : 0 < css.length := List.length_pos_iff.2 o5
    have key : (∃ k, gh = k + 1 ∧ Calls Tryz.prog 59 #[.pointer (some ⟨g, 0, none⟩), .int .i64 1, .string ⟨#[111, 114]⟩] wr fun e w5 => e = .returned (.bool true) ∧ Oly g wr w5 ∧ Calls Tryz.prog 58 #[.pointer (some ⟨g, 0, none⟩)] w5.drew fun e w6 => ∃ c : List Value, e = .returned (.agg c.toArray) ∧ SomeN c ∧ Oly g w5.drew w6 ∧ EitherIn s g D k R w.heap.size nb (.slice la ln lc) css wr w5.drew w6 c) ∨
      (Calls Tryz.prog 59 #[.pointer (some ⟨g, 0, none⟩), .int .i64 1, .string ⟨#[111, 114]⟩] wr fun e w' => e = .returned (.bool false) ∧ wr = w') ∧ ((∃ l phi q, NGood s g D (w.heap.size + 1) w.heap.size nb (.slice la ln lc) wr wr css q l ∧ R = .ok (phi, q) ∧ ∀ a b, phi a b = l.any fun p => p.2 a b) ∨ ∃ a x, R = .error (a, x) ∧ Bad wr g s D a x) := by
      rcases hrel with ⟨l, phi, q, hq, hrun, hall, hm⟩ | ⟨a, x, hR2, hB⟩
      · obtain ⟨k, rfl⟩ : ∃ k, gh = k + 1 := ⟨gh - 1, by omega⟩
        by_cases hi1 : q.pc.is 1 CM.orW = true
        · refine .inl ⟨k, rfl, (ris_yes s hs q hq.ok.le _ wr g hq.good (by omega) 1 CM.orW (by rw [rIs_word]; exact hi1)).mono ?_⟩
          rintro e w5 ⟨h1, h2, h3⟩
          exact ⟨h1, h2, either_inner (IH.out k (by omega)) hq hrun hall hm hi1 hgr h2 h3⟩
        · refine .inr ⟨ris_no s q _ wr g hq.good 1 CM.orW (by rw [rIs_word]; simpa using hi1), .inl ⟨l, phi, q, hq, ?_, hall⟩⟩
          simp only [CM.run] at hrun
          rw [if_neg hi1] at hrun
          exact hrun.symm
      · exact .inr ⟨ris_bad hB 1 CM.orW, .inr ⟨a, x, hR2, hB⟩⟩
    clear hrel IH hfst hin hst
    rcases key with ⟨k, rfl, his⟩ | ⟨his, hE⟩
    · replace his := Lib.hid his
      replace hM := Lib.hid hM
      replace hnbk := Lib.hid hnbk
      go_upto_region 3 with (go_at_call 59; (with_reducible refine his.out.mono ?_); rintro e w5 ⟨rfl, hO5, hin5⟩; replace hin5 := Lib.hid hin5)
      have hb5 : Blk w5.drew nb 81 (nodeC CM.orW la ln lc [] 0 none 0 0) := (hnbk.out.only hO5 (by show ¬ nb = g; omega)).drew
      have hOd : Oly g wr w5.drew := Only.trans hO5 (drewOly g w5)
      have j1 : w5.drew.cell? ⟨nb, 1, none⟩ = some (.slice la ln lc) := hb5.cell 1
      have lt5 := hb5.lt
      have g5 := hO5.size
      have hcon := Lib.hid (fun (w6 : World) (c : List Value) (hO6 : Oly g w5.drew w6) (hS6 : SomeN c) (hJ6 : EitherIn s g D k R w.heap.size nb (.slice la ln lc) css wr w5.drew w6 c) => (⟨(hb5.only hO6 (by show ¬ nb = g; omega)).cell 1, (hb5.only hO6 (by show ¬ nb = g; omega)).lt,
        Lib.hid ((nrow_only (nrow_only hM.out.row hOd (fun r hr e => hM.out.apart.2.2 (by rw [hr, e]))) hO6 (fun r hr e => hM.out.apart.2.2 (by rw [hr, e]))).alloc (.cells c.toArray 81)),
        Lib.hid (fun j u (hj : c[j]? = some u) => node_new w6 w6.heap.size rfl 81 c j u hj), Lib.hid hS6.one, Lib.hid hS6.len, Lib.hid (by have := hO6.size; have : w5.drew.heap.size = w5.heap.size := rfl; rw [size_alloc']; omega),
        Lib.hid (fun v2 w7 ho hg hv => either_push (w7 := w7) (v2 := v2) hM.out hcl hOd hO6 hS6 hJ6 hg ho hv)⟩ :
        w6.cell? ⟨nb, 1, none⟩ = some (.slice la ln lc) ∧ nb < w6.heap.size ∧ Hid ((w6.alloc (.cells c.toArray 81)).ownsRow w.heap.size 81 5 (.slice la ln lc) css.length css.flatten) ∧ Hid (∀ j u, c[j]? = some u → (w6.alloc (.cells c.toArray 81)).cell? ((⟨w6.heap.size, 0, none⟩ : Addr).add j) = some u) ∧ Hid (∀ u ∈ c, u.oneCell' = true) ∧ Hid (c.length = 5) ∧ Hid (w.heap.size ≤ (w6.alloc (.cells c.toArray 81)).heap.size) ∧
        Hid (∀ v2 w7, w7.ownsRow w.heap.size 81 5 v2 (css.length + 1) (css.flatten ++ c) → (w6.alloc (.cells c.toArray 81)).grownBy w7 (Value.slice la ln lc).ownBlock → (v2.ownBlock = (Value.slice la ln lc).ownBlock ∨ v2.ownBlock = some (w6.alloc (.cells c.toArray 81)).heap.size) → EitherRel s g D n R w w.heap.size nb k (w7.setCell ⟨nb, 1, none⟩ v2) ∧ w7.cell? ⟨nb, 1, none⟩ = some (.slice la ln lc) ∧ w7.frozen? ⟨nb, 1, none⟩ = false ∧ nb < w7.heap.size)))
      clear hb5 hOd hM hnbk hO5
      go_region_law (first
        | (go_simp; go_at_call 58; (with_reducible refine hin5.out.mono ?_); rintro e w6 ⟨c, rfl, hS6, hO6, hJ6⟩; obtain ⟨u1, u2, hro, hsr, hone, hln, hbs, hpu⟩ := hcon.out w6 c hO6 hS6 hJ6; clear hJ6 hO6; obtain ⟨yw, ya, yn, yc, ys, ym, yb, ybn, ybc, rfl⟩ := hS6; unfold nodeC at hro hsr hone hbs hpu ⊢)
        | (rw [if_pos (by rfl)]; refine wp_append_on (.tmp 11) (.tmp 14) 79 (by rfl) w.heap.size 81 i0 _ 5 88 Tryz.underlying79 hi hz0 hz1 hz2 (by rfl) (by decide) _ css.length css.flatten (by rfl) hro.out ⟨w6.heap.size, 0, none⟩ 1 1 _ (by rfl) hsr.out rfl hone.out (by unfold maxLen; omega) (by omega) hbs.out ?_; intro v2 w7 ho7 hg7 hv7; obtain ⟨r1, r2, r3, r4⟩ := hpu.out v2 w7 ho7 hg7 hv7; obtain ⟨a7, c7, rfl⟩ := own_slice' ho7; replace r1 := Lib.hid r1; clear ho7 hg7 hv7))
      all_goals go_wp2_with fail
      all_goals go_roundg k
      all_goals (first | omega | exact ⟨k, rfl, r1⟩)
    · replace his := Lib.hid his
      have hend := Lib.hid (either_end hM (by omega) hE)
      have hT5 := hM.res
      have n0 := hnbk.cell 0
      have n1 := hnbk.cell 1
      have n2 := hnbk.cell 2
      have n3 := hnbk.cell 3
      have n4 := hnbk.cell 4
      have x0 := hT5.cell 0
      have x1 := hT5.cell 1
      have x2 := hT5.cell 2
      have x3 := hT5.cell 3
      have x4 := hT5.cell 4
      unfold zeroN nodeC at x0 x1 x2 x3 x4
      unfold nodeC CM.orW at n0 n1 n2 n3 n4
      simp only [List.getElem?_cons_zero, List.getElem?_cons_succ] at n0 n1 n2 n3 n4 x0 x1 x2 x3 x4
      have y0 := hT5.free 0
      have y1 := hT5.free 1
      have y2 := hT5.free 2
      have y3 := hT5.free 3
      have y4 := hT5.free 4
      have ln5 := hnbk.lt
      have lt5 := hT5.lt
      clear hM hE hnbk hT5
      unfold nodeC CM.orW at hend
      go_wp2_with (go_at_call 59; (with_reducible refine his.out.mono ?_); rintro e w6 ⟨rfl, rfl⟩)
      obtain ⟨o6, hfin⟩ := hend.out
      have e0 := o6.cell 0
      have e1 := o6.cell 1
      have e2 := o6.cell 2
      have e3 := o6.cell 3
      have e4 := o6.cell 4
      simp only [List.getElem?_cons_zero, List.getElem?_cons_succ] at e0 e1 e2 e3 e4
      clear o6
      have hfin2 : ROut s g D R w (.returned (.agg #[.string ⟨#[111, 114]⟩, .slice la ln lc, .string ⟨#[]⟩, .int .i64 0, .slice none 0 0])) (((((wr.setCell ⟨w.heap.size, 0, none⟩ (.string ⟨#[111, 114]⟩)).setCell ⟨w.heap.size, 1, none⟩ (.slice la ln lc)).setCell ⟨w.heap.size, 2, none⟩ (.string ⟨#[]⟩)).setCell ⟨w.heap.size, 3, none⟩ (.int .i64 0)).setCell ⟨w.heap.size, 4, none⟩ (.slice none 0 0)) := hfin
      refine bodyPost_ret (v := .agg #[.string ⟨#[111, 114]⟩, .slice la ln lc, .string ⟨#[]⟩, .int .i64 0, .slice none 0 0]) ?_ rfl hfin2
      simp [results, Tryz.results35, go_sem, e0, e1, e2, e3, e4]
end Go.Proofs.YtcjcflmnghhbaaaGreat
/-
  The reference's part, one deeper: plain part; of chapter 27.
  Conditions: as each theorem states them.
-/
namespace Go.Proofs.YtcjcflmnghhbaaaGreat
open Go.RowKit
set_option linter.unusedVariables false
set_option linter.unusedSimpArgs false
open CM (Pc Ps)
/-- what lies there one deeper -/
def DOut (s : List UInt8) (g d : Nat) (R : Except CM.Er (CM.M × Ps)) (v : List Value) (lo : Nat) (w : World) : Prop := (∃ phi r, R = .ok (phi, r) ∧ NodeIs lo w.heap.size v phi w ∧ Good lo w g s r ∧ Sg r.pc ∧ CM.Ok s r ∧ r.deep = d) ∨ ∃ a x, R = .error (a, x) ∧ Bad w g s d a x
theorem DOut.deep {s : List UInt8} {g d : Nat} {R : Except CM.Er (CM.M × Ps)} {v : List Value} {lo : Nat} {w : World} (h : DOut s g d R v lo w) : w.cell? ⟨g, 7, none⟩ = some (.int .i64 (d : Int)) ∧ w.frozen? ⟨g, 7, none⟩ = false ∧ g < w.heap.size := by
  rcases h with ⟨phi, r, hR, h1, ⟨pa, pm, pc, hB, _⟩, h3, h4, h5⟩ | ⟨a, x, hR, r, hB, hd, _⟩
  · refine ⟨?_, hB.free 7, hB.lt⟩
    have := hB.cell 7
    rw [this]; simp [Rd.cells, rdOf, h5]
  · refine ⟨?_, hB.free 7, hB.lt⟩
    have := hB.cell 7
    rw [this]; simp [Rd.cells, hd]
theorem DOut.only {K : Nat → Prop} {s : List UInt8} {g d : Nat} {R : Except CM.Er (CM.M × Ps)} {v : List Value} {lo : Nat} {w w' : World} (h : DOut s g d R v lo w) (ho : Only K w w') (hg : ¬ K g) (hK : ∀ k, lo ≤ k → ¬ K k) : DOut s g d R v lo w' := by
  rcases h with ⟨phi, r, hR, h1, h2, h3, h4, h5⟩ | ⟨a, x, hR, hB⟩
  · exact .inl ⟨phi, r, hR, (h1.keep (KeepI.only ho (Nat.le_refl _) (fun k h1 _ => hK k h1))).wide (Nat.le_refl _) ho.size (Nat.le_refl _), h2.only ho hg hK, h3, h4, h5⟩
  · exact .inr ⟨a, x, hR, hB.only ho hg⟩
theorem next_deep (s : List UInt8) (x : Pc) (a d : Nat) : Ps.next s ⟨x, a, d⟩ = match CM.nextS s a with | .error e => .error e | .ok (y, b) => .ok ⟨y, b, d⟩ := rfl
/-- what is parsed one deeper -/
def hopS (s : List UInt8) (n : Nat) (m : CM.Md) (p : Ps) : Except CM.Er (CM.M × Ps) := match Ps.next s ⟨p.pc, p.at_, p.deep + 1⟩ with
  | .error e => .error e
  | .ok q => CM.run s n m q
def riseS (R : Except CM.Er (CM.M × Ps)) : Except CM.Er (CM.M × Ps) := match R with
  | .error e => .error e
  | .ok (h, r) => .ok (h, ⟨r.pc, r.at_, r.deep - 1⟩)
def notS (R : Except CM.Er (CM.M × Ps)) : Except CM.Er (CM.M × Ps) := match R with
  | .error e => .error e
  | .ok (h, r) => .ok (fun was now => !h was now, r)
def shutS (s : List UInt8) (R : Except CM.Er (CM.M × Ps)) : Except CM.Er (CM.M × Ps) := match R with
  | .error e => .error e
  | .ok (h, r) => if r.pc.is 5 [41] then match Ps.next s r with
      | .error e => .error e
      | .ok t => .ok (h, t)
    else .error (r.pc.at_, 9)
theorem run_not {s : List UInt8} {n : Nat} {p : Ps} (h : p.pc.is 1 CM.notW = true) (hd : ¬ p.deep = 20) : CM.run s (n + 1) .part p = riseS (notS (hopS s n .part p)) := by
  simp only [CM.run, hopS, CM.deeperS]
  rw [if_pos h, if_neg hd]
  cases Ps.next s ⟨p.pc, p.at_, p.deep + 1⟩ with
  | error e => rfl
  | ok q =>
    simp only
    cases CM.run s n .part q with
    | error e => rfl
    | ok fr => rfl
theorem run_paren {s : List UInt8} {n : Nat} {p : Ps} (h0 : p.pc.is 1 CM.notW = false) (h : p.pc.is 5 [40] = true) (hd : ¬ p.deep = 20) : CM.run s (n + 1) .part p = riseS (shutS s (hopS s n .either p)) := by
  simp only [CM.run, hopS, CM.deeperS]
  rw [if_neg (by rw [h0]; simp), if_pos h, if_neg hd]
  cases Ps.next s ⟨p.pc, p.at_, p.deep + 1⟩ with
  | error e => rfl
  | ok q =>
    simp only
    cases CM.run s n .either q with
    | error e => rfl
    | ok fr =>
      obtain ⟨f, r⟩ := fr
      simp only [shutS]
      by_cases hi : r.pc.is 5 [41] = true
      · rw [if_pos hi, if_pos hi]
        obtain ⟨x, a, d⟩ := r
        rw [next_deep, next_deep]
        cases CM.nextS s a with
        | error e => rfl
        | ok yb => rfl
      · rw [if_neg hi, if_neg hi]; rfl
theorem run_deep {s : List UInt8} {n : Nat} {p : Ps} (h : p.pc.is 1 CM.notW = true ∨ p.pc.is 5 [40] = true) (hd : p.deep = 20) : CM.run s (n + 1) .part p = .error (p.pc.at_, 7) := by
  simp only [CM.run, CM.deeperS]
  by_cases h1 : p.pc.is 1 CM.notW = true
  · rw [if_pos h1, if_pos hd]
  · rw [if_neg h1, if_pos (h.resolve_left h1), if_pos hd]
/-- a part one deeper -/
theorem hop_part {s : List UInt8} {n : Nat} (IH : RPart s n) {p : Ps} {w : World} {g m : Nat} (hok : CM.Ok s p) (hk : p.pc.kind ≠ 0) (hd : ¬ p.deep = 20) (hmu : 3 * CM.mu s p + 1 ≤ n + 1) (hgm : g < m) (hN : NextIn s g ⟨p.pc, p.at_, p.deep + 1⟩ m w) :
    Calls Tryz.prog 70 #[.pointer (some ⟨g, 0, none⟩)] w fun e w' => ∃ v : List Value, e = .returned (.agg v.toArray) ∧ SomeN v ∧ Oly g w w' ∧ DOut s g (p.deep + 1) (hopS s n .part p) v w.heap.size w' := by
  have hok1 : CM.Ok s ⟨p.pc, p.at_, p.deep + 1⟩ := ⟨hok.le, hok.pat, by have := hok.deep; show p.deep + 1 ≤ 20; omega, hok.kind⟩
  have hmu1 : CM.mu s ⟨p.pc, p.at_, p.deep + 1⟩ = CM.mu s p := rfl
  unfold NextIn at hN
  unfold hopS
  cases hn : Ps.next s ⟨p.pc, p.at_, p.deep + 1⟩ with
  | error e =>
    obtain ⟨a, x⟩ := e
    rw [hn] at hN
    refine (part_bad hN).mono ?_
    rintro e w6 ⟨o, b, v, rfl, hv⟩
    exact ⟨v, rfl, hv, o, .inr ⟨a, x, rfl, b⟩⟩
  | ok q =>
    rw [hn] at hN
    simp only at hN ⊢
    obtain ⟨ht, htlt⟩ := CM.next_less hok1 hk hn
    refine (IH q w g m hN hgm (next_sg hn) ht.ok (by omega)).mono ?_
    rintro e w6 ⟨o, v, rfl, hv, hm⟩
    refine ⟨v, rfl, hv, o, ?_⟩
    cases hp : CM.run s n .part q with
    | error e =>
      obtain ⟨a, x⟩ := e
      rw [hp] at hm
      simp only at hm
      rw [ht.deep] at hm
      exact .inr ⟨a, x, rfl, hm⟩
    | ok fr =>
      obtain ⟨chi, u⟩ := fr
      rw [hp] at hm
      simp only at hm
      obtain ⟨hu, _⟩ := CM.run_less s n _ _ _ _ ht.ok hp
      exact .inl ⟨chi, u, rfl, hm.1, hm.2.1, hm.2.2, hu.ok, hu.deep.trans ht.deep⟩
theorem hop_either {s : List UInt8} {n : Nat} (IH : REither s n) {p : Ps} {w : World} {g m : Nat} (hok : CM.Ok s p) (hk : p.pc.kind ≠ 0) (hd : ¬ p.deep = 20) (hmu : 3 * CM.mu s p + 1 ≤ n + 1) (hgm : g < m) (hN : NextIn s g ⟨p.pc, p.at_, p.deep + 1⟩ m w) :
    Calls Tryz.prog 35 #[.pointer (some ⟨g, 0, none⟩)] w fun e w' => ∃ v : List Value, e = .returned (.agg v.toArray) ∧ SomeN v ∧ Oly g w w' ∧ DOut s g (p.deep + 1) (hopS s n .either p) v w.heap.size w' := by
  have hok1 : CM.Ok s ⟨p.pc, p.at_, p.deep + 1⟩ := ⟨hok.le, hok.pat, by have := hok.deep; show p.deep + 1 ≤ 20; omega, hok.kind⟩
  have hmu1 : CM.mu s ⟨p.pc, p.at_, p.deep + 1⟩ = CM.mu s p := rfl
  unfold NextIn at hN
  unfold hopS
  cases hn : Ps.next s ⟨p.pc, p.at_, p.deep + 1⟩ with
  | error e =>
    obtain ⟨a, x⟩ := e
    rw [hn] at hN
    refine (either_bad hN).mono ?_
    rintro e w6 ⟨o, b, v, rfl, hv⟩
    exact ⟨v, rfl, hv, o, .inr ⟨a, x, rfl, b⟩⟩
  | ok q =>
    rw [hn] at hN
    simp only at hN ⊢
    obtain ⟨ht, htlt⟩ := CM.next_less hok1 hk hn
    refine (IH q w g m hN hgm (next_sg hn) ht.ok (by omega)).mono ?_
    rintro e w6 ⟨o, v, rfl, hv, hm⟩
    refine ⟨v, rfl, hv, o, ?_⟩
    cases hp : CM.run s n .either q with
    | error e =>
      obtain ⟨a, x⟩ := e
      rw [hp] at hm
      simp only at hm
      rw [ht.deep] at hm
      exact .inr ⟨a, x, rfl, hm⟩
    | ok fr =>
      obtain ⟨chi, u⟩ := fr
      rw [hp] at hm
      simp only at hm
      obtain ⟨hu, _⟩ := CM.run_less s n _ _ _ _ ht.ok hp
      exact .inl ⟨chi, u, rfl, hm.1, hm.2.1, hm.2.2, hu.ok, hu.deep.trans ht.deep⟩
/-- the bracket that shuts -/
theorem shut_must {s : List UInt8} (hs : s.length ≤ 4096) {g d : Nat} {R : Except CM.Er (CM.M × Ps)} {v : List Value} {lo : Nat} {w : World} (h : DOut s g d R v lo w) (hgl : g < lo) (b : Nat) (hb : StrsAt w b [[41]]) (hlo : lo ≤ w.heap.size) :
    Calls Tryz.prog 93 #[.pointer (some ⟨g, 0, none⟩), .int .i64 4, .slice (some ⟨b, 0, none⟩) 1 1] w fun e w' => Oly g w w' ∧ (∃ y, e = .returned y ∧ SomeP y) ∧ DOut s g d (shutS s R) v lo w' := by
  rcases h with ⟨phi, r, rfl, h1, h2, h3, h4, h5⟩ | ⟨a, x, rfl, hB⟩
  · have e41 := rIs_shut h3
    by_cases hi : r.pc.is 5 [41] = true
    · rw [hi] at e41
      unfold rIs at e41
      simp only [Bool.and_eq_true, beq_iff_eq] at e41
      refine (must_yes s hs r h4.le lo w g h2 hgl hlo 4 [[41]] 1 b 1 rfl hb (by decide) (by decide) e41.1 (by rw [e41.2]; decide)).mono ?_
      rintro e w6 ⟨o, hN, y, rfl, hy⟩
      refine ⟨o, ⟨y, rfl, ?_⟩, ?_⟩
      · obtain ⟨pa, pm, pc, rfl, _⟩ := hy
        exact ⟨_, _, _, _, _, _, _, rfl⟩
      · unfold NextIn at hN
        unfold shutS
        simp only
        rw [if_pos hi]
        cases hn : r.next s with
        | error e =>
          obtain ⟨a, x⟩ := e
          rw [hn] at hN
          simp only at hN
          rw [h5] at hN
          exact .inr ⟨a, x, rfl, hN⟩
        | ok t =>
          rw [hn] at hN
          simp only at hN
          obtain ⟨ht, _⟩ := CM.next_less h4 (CM.is_some hi) hn
          exact .inl ⟨phi, t, rfl, (h1.keep (KeepI.only o (Nat.le_refl _) (fun k k1 _ e => by omega))).wide (Nat.le_refl _) o.size (Nat.le_refl _), hN.mono hlo, next_sg hn, ht.ok, ht.deep.trans h5⟩
    · have hi' : r.pc.is 5 [41] = false := by simpa using hi
      rw [hi'] at e41
      have hgo : Calls Tryz.prog 93 #[.pointer (some ⟨g, 0, none⟩), .int .i64 4, .slice (some ⟨b, 0, none⟩) 1 1] w fun e w' => Oly g w w' ∧ Bad w' g s r.deep r.pc.at_ 9 ∧ ∃ v, e = .returned v ∧ SomeP v := by
        by_cases hk : rk r.pc.kind = 4
        · refine must_none s hs r h4.le lo w g h2 hgl hlo 4 [[41]] 1 b 1 rfl hb (by decide) (by decide) hk ?_
          unfold rIs at e41
          rw [hk] at e41
          have e2 : (rs r.pc == [41]) = false := by simpa using e41
          have e3 : ¬ rs r.pc = [41] := by simpa using e2
          simp [inS, e3]
          try (intro e; exact e3 e.symm)
        · exact must_other s hs r h4.le lo w g h2 hgl hlo 4 _ hk
      refine hgo.mono ?_
      rintro e w6 ⟨o, hB, y, rfl, hy⟩
      refine ⟨o, ⟨y, rfl, hy⟩, .inr ⟨r.pc.at_, 9, ?_, ?_⟩⟩
      · unfold shutS
        simp only
        rw [if_neg hi]
      · rw [← h5]; exact hB
  · refine (must_bad s d a x w g hB 4 _).mono ?_
    rintro e w6 ⟨o, hB2, y, rfl, hy⟩
    exact ⟨o, ⟨y, rfl, hy⟩, .inr ⟨a, x, rfl, hB2⟩⟩
/-- not -/
theorem DOut.not {s : List UInt8} {g d : Nat} {R : Except CM.Er (CM.M × Ps)} {v : List Value} {lo : Nat} {w : World} (h : DOut s g d R v lo w) (hv : v.length = 5) (hlo : lo ≤ w.heap.size) : DOut s g d (notS R) (nodeC CM.notW (some ⟨w.heap.size, 0, none⟩) 1 1 [] 0 none 0 0) lo (w.alloc (.cells v.toArray 81)) := by
  have hb : Below w.heap.size w (w.alloc (.cells v.toArray 81)) := bl_alloc (Below.refl _ _) _
  have hs := size_alloc' w (.cells v.toArray 81)
  have hnew := Blk.new w 81 v
  rcases h with ⟨phi, r, rfl, h1, h2, h3, h4, h5⟩ | ⟨a, x, rfl, hB⟩
  · have hrow : RowIs lo (w.alloc (.cells v.toArray 81)).heap.size w.heap.size [(v, phi)] (w.alloc (.cells v.toArray 81)) := by
      refine ⟨Nat.le_refl _, hlo, by omega, fun i hi => ?_⟩
      obtain rfl : i = 0 := by simpa using hi
      refine ⟨(h1.keep (KeepI.below hb (Nat.le_refl _))).wide (Nat.le_refl _) (by omega) (Nat.le_refl _), fun j u hu => ?_⟩
      simp only [List.getElem_cons_zero, Nat.zero_mul, Nat.zero_add] at hu ⊢
      exact (hnew.cell j).trans hu
    exact .inl ⟨_, r, rfl, NodeIs.not hrow 1 (Nat.le_refl _) [] 0 none 0 0, h2.below hb, h3, h4, h5⟩
  · exact .inr ⟨a, x, rfl, hB.below hb⟩
/-- back up -/
theorem DOut.rise {s : List UInt8} {g d B : Nat} {R : Except CM.Er (CM.M × Ps)} {v : List Value} {lo : Nat} {w w8 : World} (h : DOut s g (d + 1) R v lo w8) (hv : ∃ v0 v1 v2 v3 v4, v = [v0, v1, v2, v3, v4]) (hsv : SomeN v) (hO : Oly g w w8) (hB : B = w.heap.size) (hgB : g < B) (hlo : B < lo) (hres : Blk w8 B 81 zeroN) :
    ∀ v0 v1 v2 v3 v4, v = [v0, v1, v2, v3, v4] → Blk ((((((w8.setCell ⟨g, 7, none⟩ (.int .i64 (d : Int))).setCell ⟨B, 0, none⟩ v0).setCell ⟨B, 1, none⟩ v1).setCell ⟨B, 2, none⟩ v2).setCell ⟨B, 3, none⟩ v3).setCell ⟨B, 4, none⟩ v4) B 81 [v0, v1, v2, v3, v4] ∧ ROut s g d (riseS R) w (.returned (.agg v.toArray)) ((((((w8.setCell ⟨g, 7, none⟩ (.int .i64 (d : Int))).setCell ⟨B, 0, none⟩ v0).setCell ⟨B, 1, none⟩ v1).setCell ⟨B, 2, none⟩ v2).setCell ⟨B, 3, none⟩ v3).setCell ⟨B, 4, none⟩ v4) := by
  intro v0 v1 v2 v3 v4 hve
  have hresd : Blk (w8.setCell ⟨g, 7, none⟩ (.int .i64 (d : Int))) B 81 zeroN := hres.set_other (p := ⟨g, 7, none⟩) (by show g ≠ B; omega) _
  have hOd : Only (fun k => k = g) w8 (w8.setCell ⟨g, 7, none⟩ (.int .i64 (d : Int))) := (Only.refl (fun k => k = g) w8).setCell (p := ⟨g, 7, none⟩) rfl _
  have h9 : (∃ phi r, riseS R = .ok (phi, r) ∧ NodeIs lo (w8.setCell ⟨g, 7, none⟩ (.int .i64 (d : Int))).heap.size v phi (w8.setCell ⟨g, 7, none⟩ (.int .i64 (d : Int))) ∧ Good lo (w8.setCell ⟨g, 7, none⟩ (.int .i64 (d : Int))) g s r ∧ Sg r.pc) ∨ ∃ a x, riseS R = .error (a, x) ∧ Bad (w8.setCell ⟨g, 7, none⟩ (.int .i64 (d : Int))) g s d a x := by
    rcases h with ⟨phi, r, rfl, h1, h2, h3, h4, h5⟩ | ⟨a, x, rfl, hBd⟩
    · refine .inl ⟨phi, ⟨r.pc, r.at_, r.deep - 1⟩, rfl, (h1.keep (KeepI.only hOd (Nat.le_refl _) (fun k k1 _ e => by omega))).wide (Nat.le_refl _) hOd.size (Nat.le_refl _), ?_, h3⟩
      have := h2.dp (by omega) d
      rw [show r.deep - 1 = d by omega]
      exact this
    · exact .inr ⟨a, x, rfl, hBd.dp d⟩
  have hOw1 : Oly g w (w8.setCell ⟨g, 7, none⟩ (.int .i64 (d : Int))) := Only.trans hO hOd
  generalize World.setCell w8 _ _ = w9 at *
  have hX := ((((hresd.set 0 v0).set 1 v1).set 2 v2).set 3 v3).set 4 v4
  have hO9 : Only (fun k => k = B) w9 (((((w9.setCell ⟨B, 0, none⟩ v0).setCell ⟨B, 1, none⟩ v1).setCell ⟨B, 2, none⟩ v2).setCell ⟨B, 3, none⟩ v3).setCell ⟨B, 4, none⟩ v4) := (((((Only.refl (fun k => k = B) w9).setCell (p := ⟨B, 0, none⟩) rfl _).setCell (p := ⟨B, 1, none⟩) rfl _).setCell (p := ⟨B, 2, none⟩) rfl _).setCell (p := ⟨B, 3, none⟩) rfl _).setCell (p := ⟨B, 4, none⟩) rfl _
  have hOw : Oly g w (((((w9.setCell ⟨B, 0, none⟩ v0).setCell ⟨B, 1, none⟩ v1).setCell ⟨B, 2, none⟩ v2).setCell ⟨B, 3, none⟩ v3).setCell ⟨B, 4, none⟩ v4) := only_fresh (only_fresh (only_fresh (only_fresh (only_fresh hOw1 (by omega) 0 _) (by omega) 1 _) (by omega) 2 _) (by omega) 3 _) (by omega) 4 _
  refine ⟨hX, ?_⟩
  generalize World.setCell (World.setCell (World.setCell (World.setCell (World.setCell _ _ _) _ _) _ _) _ _) _ _ = W9 at *
  have hgB2 : ¬ g = B := by omega
  rcases h9 with ⟨phi, r, hR, h1, h2, h3⟩ | ⟨a, x, hR, hBd⟩
  · have h1b : NodeIs w.heap.size W9.heap.size v phi W9 := (h1.keep (KeepI.only hO9 (Nat.le_refl _) (fun k k1 _ e => by omega))).wide (by omega) hO9.size (Nat.le_refl _)
    exact ROut.ok hR hOw h1b ((h2.only hO9 hgB2 (fun k hk e => by omega)).mono (by omega)) h3
  · exact ROut.err hR hOw hsv (hBd.only hO9 hgB2)
end Go.Proofs.YtcjcflmnghhbaaaGreat
/-
  The reference's part: not, parentheses, too deep; of chapter 27. (Printed by gen_rq6.py.)
  Conditions: as each theorem states them.
-/
namespace Go.Proofs.YtcjcflmnghhbaaaGreat
open Go.RowKit
set_option linter.unusedVariables false
set_option linter.unusedSimpArgs false
open CM (Pc Ps)
set_option maxHeartbeats 8000000 in
set_option maxRecDepth 100000 in
theorem rpart_not {s : List UInt8} {n : Nat} (hs : s.length ≤ 4096) (IH : RPart s n) {p : Ps} {w : World} {g nn : Nat} (hG : Good nn w g s p) (hgn : g < nn) (hsg : Sg p.pc) (hok : CM.Ok s p) (hmu : 3 * CM.mu s p + 1 ≤ n + 1) (hi : p.pc.is 1 CM.notW = true) (hd : ¬ p.deep = 20) : Calls Tryz.prog 70 #[.pointer (some ⟨g, 0, none⟩)] w (ROut s g p.deep (CM.run s (n + 1) .part p) w) := by
  rw [run_not hi hd]
  have hkk : (rIs p.pc 1 CM.notW = true) := by rw [rIs_word]; exact hi
  unfold rIs at hkk
  simp only [Bool.and_eq_true, beq_iff_eq] at hkk
  obtain ⟨hk1, hk2⟩ := hkk
  have hk0 := CM.is_some hi
  have hgw := hG.lt
  have hdp := hok.deep
  have hd19 : p.deep ≤ 19 := by omega
  obtain ⟨D, hD⟩ : ∃ D, p.deep = D := ⟨_, rfl⟩
  obtain ⟨E, hE⟩ : ∃ E, D + 1 = E := ⟨_, rfl⟩
  have hw1 : IntKind.i64.wrap ((D : Int) + 1) = (E : Int) := by rw [IntWalk.i64_in _ (by omega)]; omega
  have hw2 : IntKind.i64.wrap ((E : Int) - 1) = (D : Int) := by rw [IntWalk.i64_in _ (by omega)]; omega
  have hwle : (D : Int) < 20 := by omega
  have hwle2 : ¬ (20 : Int) ≤ (D : Int) := by omega
  have hb2 : ∀ x : List Value, Below w.heap.size w ((w.alloc (.cells zeroN.toArray 81)).alloc (.cells x.toArray 102)) := fun x => bl_alloc (bl_alloc (Below.refl _ _) _) _
  have hnx := Lib.hid (fun (x : List Value) => (by
    have h3 := (hG.below (hb2 x)).dp hgn E
    have h4 := rnext_any s hs _ (by exact hok.le) nn _ g h3 hgn
    exact h4 : Calls Tryz.prog 34 #[.pointer (some ⟨g, 0, none⟩)] (((w.alloc (.cells zeroN.toArray 81)).alloc (.cells x.toArray 102)).setCell ⟨g, 7, none⟩ (.int .i64 (E : Int))) (RNext s g ⟨p.pc, p.at_, E⟩ (((w.alloc (.cells zeroN.toArray 81)).alloc (.cells x.toArray 102)).setCell ⟨g, 7, none⟩ (.int .i64 (E : Int))))))
  have hBz := Blk.new w 81 zeroN
  have hsz1 := size_alloc' w (.cells zeroN.toArray 81)
  have hpart := Lib.hid (fun w5a m hgm hN => hop_part (w := w5a) (g := g) (m := m) IH hok hk0 hd hmu hgm hN)
  rw [hD] at hpart
  rw [hE] at hpart
  have hDD := Lib.hid hD
  have hEE := Lib.hid hE
  obtain ⟨pa, pm, pc, hB, _⟩ := hG
  have hBW : RAt (w.alloc (.cells zeroN.toArray 81)) g s (rdOf p pa pm pc) := hB.below (bl_alloc (Below.refl _ _) _)
  obtain ⟨c0, c1, c2, c3, c4, c5, c6, c7, c8, c9⟩ := RAt.facts hBW
  simp only [rdOf] at c1 c2 c3 c4 c5 c6 c7 c8 c9
  rw [hk1] at c2
  rw [hk2] at c4
  have f7 := hBW.free 7
  have hgl := hB.lt
  rw [hD] at c7 ⊢
  clear hB hBW hk1 hk2 hd IH hok hmu hi hsg hk0 hE hD hdp hd19
  obtain ⟨W1, hW1⟩ : ∃ W1, w.alloc (.cells zeroN.toArray 81) = W1 := ⟨_, rfl⟩
  rw [hW1] at hb2 hnx hBz hsz1 c0 c1 c2 c3 c4 c5 c6 c7 c8 c9 f7
  have hb1 : Below W1.heap.size W1 (W1.alloc (.cells #[.int .i64 1, .int .i64 (p.pc.at_ : Int), .string ⟨#[110, 111, 116]⟩, .int .i64 p.pc.n, .slice pa pm pc] 102)) := bl_alloc (Below.refl _ _) _
  obtain ⟨W2, hW2⟩ : ∃ W2, W1.alloc (.cells #[.int .i64 1, .int .i64 (p.pc.at_ : Int), .string ⟨#[110, 111, 116]⟩, .int .i64 p.pc.n, .slice pa pm pc] 102) = W2 := ⟨_, rfl⟩
  have hb2' : Below w.heap.size w W2 := by rw [← hW2]; exact hb2 _
  have hP := Blk.new W1 102 [.int .i64 1, .int .i64 (p.pc.at_ : Int), .string ⟨#[110, 111, 116]⟩, .int .i64 p.pc.n, .slice pa pm pc]
  have hnx2 := Lib.hid (hnx.out [.int .i64 1, .int .i64 (p.pc.at_ : Int), .string ⟨#[110, 111, 116]⟩, .int .i64 p.pc.n, .slice pa pm pc])
  have hB2 := hBz.alloc (.cells #[.int .i64 1, .int .i64 (p.pc.at_ : Int), .string ⟨#[110, 111, 116]⟩, .int .i64 p.pc.n, .slice pa pm pc] 102)
  have hs2 := size_alloc' W1 (.cells #[.int .i64 1, .int .i64 (p.pc.at_ : Int), .string ⟨#[110, 111, 116]⟩, .int .i64 p.pc.n, .slice pa pm pc] 102)
  rw [show ([.int .i64 1, .int .i64 (p.pc.at_ : Int), .string ⟨#[110, 111, 116]⟩, .int .i64 p.pc.n, .slice pa pm pc] : List Value).toArray = #[.int .i64 1, .int .i64 (p.pc.at_ : Int), .string ⟨#[110, 111, 116]⟩, .int .i64 p.pc.n, .slice pa pm pc] from rfl] at hP hnx2
  rw [hW2] at hP hnx2 hB2 hs2
  rw [hsz1] at hP
  have p0 := hP.cell 0
  have p1 := hP.cell 1
  have p2 := hP.cell 2
  simp only [List.getElem?_cons_zero, List.getElem?_cons_succ] at p0 p1 p2
  have pl := hP.lt
  have hgl1 : g < W1.heap.size := by omega
  rw [hW2] at hb1
  have d7 := (hb1.cell (p := ⟨g, 7, none⟩) hgl1).trans c7
  have d7f : W2.frozen? ⟨g, 7, none⟩ = false := by rw [hb1.frozen (p := ⟨g, 7, none⟩) hgl1]; exact f7
  have hgl2 : g < W2.heap.size := by omega
  have hwB := hB2.lt
  replace hP := Lib.hid hP
  replace hB2 := Lib.hid hB2
  replace hb2' := Lib.hid hb2'
  replace hW1 := Lib.hid hW1
  replace hW2 := Lib.hid hW2
  unfold zeroN nodeC at hW1
  clear hb2 hnx hBz f7 hb1
  go_enter Tryz.func70, Tryz.ntmps70
  go_upto_region 1 with fail
  rw [hW1.out]
  go_upto_region 4 with fail
  rw [hW2.out]
  go_upto_region 9 with fail
  have hO3 : Oly g W2 (W2.setCell ⟨g, 7, none⟩ (.int .i64 (E : Int))) := (Only.refl (fun k => k = g) W2).setCell (p := ⟨g, 7, none⟩) rfl _
  generalize World.setCell W2 _ _ = W3 at *
  have hs3 := hO3.size
  have hP3 := hP.out.only hO3 (by show ¬ w.heap.size + 1 = g; omega)
  have hB3 := hB2.out.only hO3 (by show ¬ w.heap.size = g; omega)
  have hOw3 : Oly g w W3 := Only.trans (Only.of_below hb2'.out) hO3
  clear p0 p1 p2 pl d7 d7f hP hB2 hb2' hO3 c0 c1 c2 c3 c4 c5 c6 c7 c8 c9 hwB
  replace hP3 := Lib.hid hP3
  replace hB3 := Lib.hid hB3
  replace hOw3 := Lib.hid hOw3
  go_upto_region 11 with (go_at_call 34; (with_reducible refine hnx2.out.mono ?_); rintro e w5 ⟨rfl, hO5, hN5⟩; replace hN5 := Lib.hid hN5)
  have hb5 : Below w5.heap.size w5 (w5.alloc (.cells zeroN.toArray 81)) := bl_alloc (Below.refl _ _) _
  have hs5 := size_alloc' w5 (.cells zeroN.toArray 81)
  have hg5 := hO5.size
  have hN5b : NextIn s g ⟨p.pc, p.at_, E⟩ W3.heap.size (w5.alloc (.cells zeroN.toArray 81)) := NextIn.only (K := fun _ => False) (show NextIn s g ⟨p.pc, p.at_, E⟩ W3.heap.size w5 from hN5.out) (Only.of_below hb5) id (fun _ _ => id)
  have hp5 := Lib.hid (hpart.out _ _ (by omega) hN5b)
  have hP5 := (hP3.out.only hO5 (by show ¬ w.heap.size + 1 = g; omega)).below hb5
  have hB5 := (hB3.out.only hO5 (by show ¬ w.heap.size = g; omega)).below hb5
  have hn5 := Blk.new w5 81 zeroN
  have hO5w : Oly g w (w5.alloc (.cells zeroN.toArray 81)) := Only.trans hOw3.out (Only.trans hO5 (Only.of_below hb5))
  have p2 := hP5.cell 2
  simp only [List.getElem?_cons_zero, List.getElem?_cons_succ] at p2
  have pl := hP5.lt
  clear hN5 hN5b hpart hP5 hP3 hB3 hnx2 hb5
  obtain ⟨w5a, hw5a⟩ : ∃ w5a, w5.alloc (.cells zeroN.toArray 81) = w5a := ⟨_, rfl⟩
  rw [hw5a] at hp5 hB5 hn5 hO5w p2 pl hs5
  replace hw5a := Lib.hid hw5a
  unfold zeroN nodeC at hw5a
  rw [hw5a.out]
  obtain ⟨nb, hnb⟩ : ∃ nb, w5.heap.size = nb := ⟨_, rfl⟩
  rw [hnb] at hn5 hs5 hg5 ⊢
  replace hB5 := Lib.hid hB5
  replace hn5 := Lib.hid hn5
  replace hO5w := Lib.hid hO5w
  replace hOw3 := Lib.hid hOw3
  replace hnb := Lib.hid hnb
  have hdo := Lib.hid (fun w6 (hO6 : Oly g w5a w6) => (⟨hn5.out.only hO6 (by show ¬ nb = g; omega), hB5.out.only hO6 (by show ¬ w.heap.size = g; omega), Only.trans hO5w.out hO6⟩ : Blk w6 nb 81 zeroN ∧ Blk w6 w.heap.size 81 zeroN ∧ Oly g w w6))
  clear hO5
  go_upto_region 15 with (go_at_call 70; (with_reducible refine hp5.out.mono ?_); rintro e w6 ⟨v, rfl, hsv, hO6, hD6⟩; obtain ⟨n6, b6, o6⟩ := hdo.out w6 hO6; have z60 : w6.cell? ⟨nb, 0, none⟩ = some (.string ⟨#[]⟩) := n6.cell 0; have z61 : w6.cell? ⟨nb, 1, none⟩ = some (.slice none 0 0) := n6.cell 1; have z62 : w6.cell? ⟨nb, 2, none⟩ = some (.string ⟨#[]⟩) := n6.cell 2; have z63 : w6.cell? ⟨nb, 3, none⟩ = some (.int .i64 0) := n6.cell 3; have z64 : w6.cell? ⟨nb, 4, none⟩ = some (.slice none 0 0) := n6.cell 4; have n60 := n6.free 0; have n61 := n6.free 1; have n62 := n6.free 2; have n63 := n6.free 3; have n64 := n6.free 4; have n6l := n6.lt; have hlo6 := hO6.size; have hlen6 := Lib.hid hsv.len; replace hD6 := Lib.hid hD6; replace n6 := Lib.hid n6; replace b6 := Lib.hid b6; replace o6 := Lib.hid o6; clear hO6; obtain ⟨xw, xa, xn, xc, xs, xm, xb, xbn, xbc, rfl⟩ := hsv; unfold nodeC at hD6 hlen6 ⊢)
  have hO7 : Only (fun k => k = nb) w6 (((((w6.setCell ⟨nb, 0, none⟩ (.string ⟨#[110, 111, 116]⟩)).setCell ⟨nb, 1, none⟩ (.slice (some ⟨w6.heap.size, 0, none⟩) 1 1)).setCell ⟨nb, 2, none⟩ (.string ⟨#[]⟩)).setCell ⟨nb, 3, none⟩ (.int .i64 0)).setCell ⟨nb, 4, none⟩ (.slice none 0 0)) := (((((Only.refl (fun k => k = nb) _).setCell (p := ⟨nb, 0, none⟩) rfl _).setCell (p := ⟨nb, 1, none⟩) rfl _).setCell (p := ⟨nb, 2, none⟩) rfl _).setCell (p := ⟨nb, 3, none⟩) rfl _).setCell (p := ⟨nb, 4, none⟩) rfl _
  have n7 : Blk (((((w6.setCell ⟨nb, 0, none⟩ (.string ⟨#[110, 111, 116]⟩)).setCell ⟨nb, 1, none⟩ (.slice (some ⟨w6.heap.size, 0, none⟩) 1 1)).setCell ⟨nb, 2, none⟩ (.string ⟨#[]⟩)).setCell ⟨nb, 3, none⟩ (.int .i64 0)).setCell ⟨nb, 4, none⟩ (.slice none 0 0)) nb 81 [.string ⟨#[110, 111, 116]⟩, .slice (some ⟨w6.heap.size, 0, none⟩) 1 1, .string ⟨#[]⟩, .int .i64 0, .slice none 0 0] := ((((n6.out.set 0 (.string ⟨#[110, 111, 116]⟩)).set 1 (.slice (some ⟨w6.heap.size, 0, none⟩) 1 1)).set 2 (.string ⟨#[]⟩)).set 3 (.int .i64 0)).set 4 (.slice none 0 0)
  have hwn : w.heap.size < nb := by omega
  have o7 : Oly g w (((((w6.setCell ⟨nb, 0, none⟩ (.string ⟨#[110, 111, 116]⟩)).setCell ⟨nb, 1, none⟩ (.slice (some ⟨w6.heap.size, 0, none⟩) 1 1)).setCell ⟨nb, 2, none⟩ (.string ⟨#[]⟩)).setCell ⟨nb, 3, none⟩ (.int .i64 0)).setCell ⟨nb, 4, none⟩ (.slice none 0 0)) := only_fresh (only_fresh (only_fresh (only_fresh (only_fresh o6.out (by omega) 0 _) (by omega) 1 _) (by omega) 2 _) (by omega) 3 _) (by omega) 4 _
  have hs7 : ((((((w6.setCell ⟨nb, 0, none⟩ (.string ⟨#[110, 111, 116]⟩)).setCell ⟨nb, 1, none⟩ (.slice (some ⟨w6.heap.size, 0, none⟩) 1 1)).setCell ⟨nb, 2, none⟩ (.string ⟨#[]⟩)).setCell ⟨nb, 3, none⟩ (.int .i64 0)).setCell ⟨nb, 4, none⟩ (.slice none 0 0))).heap.size = w6.heap.size := by simp [World.setCell]
  obtain ⟨w7, hw7⟩ : ∃ w7, (((((w6.setCell ⟨nb, 0, none⟩ (.string ⟨#[110, 111, 116]⟩)).setCell ⟨nb, 1, none⟩ (.slice (some ⟨w6.heap.size, 0, none⟩) 1 1)).setCell ⟨nb, 2, none⟩ (.string ⟨#[]⟩)).setCell ⟨nb, 3, none⟩ (.int .i64 0)).setCell ⟨nb, 4, none⟩ (.slice none 0 0)) = w7 := ⟨_, rfl⟩
  rw [hw7] at hO7 n7 o7 hs7 ⊢
  replace hw7 := Lib.hid hw7
  have hD7 := hD6.out.only hO7 (by show ¬ g = nb; omega) (fun k hk e => by omega)
  have b7 := b6.out.only hO7 (by show ¬ w.heap.size = nb; omega)
  have hD8 := hD7.not hlen6.out (by omega)
  have hb8 : Below w7.heap.size w7 (w7.alloc (.cells #[strV xw, .slice xa xn xc, strV xs, .int .i64 xm, .slice xb xbn xbc] 81)) := bl_alloc (Below.refl _ _) _
  rw [hs7] at hD8
  have n8 := n7.below hb8
  have b8 := b7.below hb8
  have o8 : Oly g w (w7.alloc (.cells #[strV xw, .slice xa xn xc, strV xs, .int .i64 xm, .slice xb xbn xbc] 81)) := Only.trans o7 (Only.of_below hb8)
  replace hD8 : DOut s g E (notS (hopS s n .part p)) [.string ⟨#[110, 111, 116]⟩, .slice (some ⟨w6.heap.size, 0, none⟩) 1 1, .string ⟨#[]⟩, .int .i64 0, .slice none 0 0] w5a.heap.size (w7.alloc (.cells #[strV xw, .slice xa xn xc, strV xs, .int .i64 xm, .slice xb xbn xbc] 81)) := hD8
  clear hO7 hD7 n6 b6 o6 z60 z61 z62 z63 z64 n60 n61 n62 n63 n64 hdo hD6 b7 o7 n7 hb8
  obtain ⟨W8, hW8⟩ : ∃ W8, w7.alloc (.cells #[strV xw, .slice xa xn xc, strV xs, .int .i64 xm, .slice xb xbn xbc] 81) = W8 := ⟨_, rfl⟩
  rw [hW8] at hD8 n8 b8 o8 ⊢
  replace hW8 := Lib.hid hW8
  have hdeep8 := hD8.deep
  have r0 := n8.cell 0
  have r1 := n8.cell 1
  have r2 := n8.cell 2
  have r3 := n8.cell 3
  have r4 := n8.cell 4
  simp only [List.getElem?_cons_zero, List.getElem?_cons_succ] at r0 r1 r2 r3 r4
  have x0 : W8.cell? ⟨w.heap.size, 0, none⟩ = some (.string ⟨#[]⟩) := b8.cell 0
  have x1 : W8.cell? ⟨w.heap.size, 1, none⟩ = some (.slice none 0 0) := b8.cell 1
  have x2 : W8.cell? ⟨w.heap.size, 2, none⟩ = some (.string ⟨#[]⟩) := b8.cell 2
  have x3 : W8.cell? ⟨w.heap.size, 3, none⟩ = some (.int .i64 0) := b8.cell 3
  have x4 : W8.cell? ⟨w.heap.size, 4, none⟩ = some (.slice none 0 0) := b8.cell 4
  have y0 := b8.free 0
  have y1 := b8.free 1
  have y2 := b8.free 2
  have y3 := b8.free 3
  have y4 := b8.free 4
  have nl8 := n8.lt
  have bl8 := b8.lt
  obtain ⟨g7, g7f, g7l⟩ := hdeep8
  have hnbv := hnb.out
  have hrise := Lib.hid (DOut.rise (d := D) (B := w.heap.size) (w := w) (by rw [hEE.out]; exact hD8) ⟨_, _, _, _, _, rfl⟩ ⟨_, _, _, _, _, _, _, _, _, rfl⟩ o8 rfl hgw (by omega) b8 _ _ _ _ _ rfl)
  clear hD8 n8 b8 o8
  go_wp2_with fail
  obtain ⟨q1, q2⟩ := hrise.out
  have e0 := q1.cell 0
  have e1 := q1.cell 1
  have e2 := q1.cell 2
  have e3 := q1.cell 3
  have e4 := q1.cell 4
  simp only [List.getElem?_cons_zero, List.getElem?_cons_succ] at e0 e1 e2 e3 e4
  clear q1
  refine bodyPost_ret (v := .agg #[.string ⟨#[110, 111, 116]⟩, .slice (some ⟨w6.heap.size, 0, none⟩) 1 1, .string ⟨#[]⟩, .int .i64 0, .slice none 0 0]) ?_ rfl q2
  simp [results, Tryz.results70, go_sem, e0, e1, e2, e3, e4]
set_option maxHeartbeats 8000000 in
set_option maxRecDepth 100000 in
theorem rpart_paren {s : List UInt8} {n : Nat} (hs : s.length ≤ 4096) (IH : REither s n) {p : Ps} {w : World} {g nn : Nat} (hG : Good nn w g s p) (hgn : g < nn) (hsg : Sg p.pc) (hok : CM.Ok s p) (hmu : 3 * CM.mu s p + 1 ≤ n + 1) (hi0 : p.pc.is 1 CM.notW = false) (hi : p.pc.is 5 [40] = true) (hd : ¬ p.deep = 20) : Calls Tryz.prog 70 #[.pointer (some ⟨g, 0, none⟩)] w (ROut s g p.deep (CM.run s (n + 1) .part p) w) := by
  rw [run_paren hi0 hi hd]
  have hkk : (rIs p.pc 4 [40] = true) := by rw [rIs_open hsg]; exact hi
  unfold rIs at hkk
  simp only [Bool.and_eq_true, beq_iff_eq] at hkk
  obtain ⟨hk1, hk2⟩ := hkk
  have hk0 := CM.is_some hi
  have hgw := hG.lt
  have hdp := hok.deep
  have hd19 : p.deep ≤ 19 := by omega
  obtain ⟨D, hD⟩ : ∃ D, p.deep = D := ⟨_, rfl⟩
  obtain ⟨E, hE⟩ : ∃ E, D + 1 = E := ⟨_, rfl⟩
  have hw1 : IntKind.i64.wrap ((D : Int) + 1) = (E : Int) := by rw [IntWalk.i64_in _ (by omega)]; omega
  have hw2 : IntKind.i64.wrap ((E : Int) - 1) = (D : Int) := by rw [IntWalk.i64_in _ (by omega)]; omega
  have hwle : (D : Int) < 20 := by omega
  have hwle2 : ¬ (20 : Int) ≤ (D : Int) := by omega
  have hb2 : ∀ x : List Value, Below w.heap.size w ((w.alloc (.cells zeroN.toArray 81)).alloc (.cells x.toArray 102)) := fun x => bl_alloc (bl_alloc (Below.refl _ _) _) _
  have hnx := Lib.hid (fun (x : List Value) => (by
    have h3 := (hG.below (hb2 x)).dp hgn E
    have h4 := rnext_any s hs _ (by exact hok.le) nn _ g h3 hgn
    exact h4 : Calls Tryz.prog 34 #[.pointer (some ⟨g, 0, none⟩)] (((w.alloc (.cells zeroN.toArray 81)).alloc (.cells x.toArray 102)).setCell ⟨g, 7, none⟩ (.int .i64 (E : Int))) (RNext s g ⟨p.pc, p.at_, E⟩ (((w.alloc (.cells zeroN.toArray 81)).alloc (.cells x.toArray 102)).setCell ⟨g, 7, none⟩ (.int .i64 (E : Int))))))
  have hBz := Blk.new w 81 zeroN
  have hsz1 := size_alloc' w (.cells zeroN.toArray 81)
  have hpart := Lib.hid (fun w5a m hgm hN => hop_either (w := w5a) (g := g) (m := m) IH hok hk0 hd hmu hgm hN)
  rw [hD] at hpart
  rw [hE] at hpart
  have hDD := Lib.hid hD
  have hEE := Lib.hid hE
  obtain ⟨pa, pm, pc, hB, _⟩ := hG
  have hBW : RAt (w.alloc (.cells zeroN.toArray 81)) g s (rdOf p pa pm pc) := hB.below (bl_alloc (Below.refl _ _) _)
  obtain ⟨c0, c1, c2, c3, c4, c5, c6, c7, c8, c9⟩ := RAt.facts hBW
  simp only [rdOf] at c1 c2 c3 c4 c5 c6 c7 c8 c9
  rw [hk1] at c2
  rw [hk2] at c4
  have f7 := hBW.free 7
  have hgl := hB.lt
  rw [hD] at c7 ⊢
  clear hB hBW hk1 hk2 hd IH hok hmu hi hi0 hsg hk0 hE hD hdp hd19
  obtain ⟨W1, hW1⟩ : ∃ W1, w.alloc (.cells zeroN.toArray 81) = W1 := ⟨_, rfl⟩
  rw [hW1] at hb2 hnx hBz hsz1 c0 c1 c2 c3 c4 c5 c6 c7 c8 c9 f7
  have hb1 : Below W1.heap.size W1 (W1.alloc (.cells #[.int .i64 4, .int .i64 (p.pc.at_ : Int), .string ⟨#[40]⟩, .int .i64 p.pc.n, .slice pa pm pc] 102)) := bl_alloc (Below.refl _ _) _
  obtain ⟨W2, hW2⟩ : ∃ W2, W1.alloc (.cells #[.int .i64 4, .int .i64 (p.pc.at_ : Int), .string ⟨#[40]⟩, .int .i64 p.pc.n, .slice pa pm pc] 102) = W2 := ⟨_, rfl⟩
  have hb2' : Below w.heap.size w W2 := by rw [← hW2]; exact hb2 _
  have hP := Blk.new W1 102 [.int .i64 4, .int .i64 (p.pc.at_ : Int), .string ⟨#[40]⟩, .int .i64 p.pc.n, .slice pa pm pc]
  have hnx2 := Lib.hid (hnx.out [.int .i64 4, .int .i64 (p.pc.at_ : Int), .string ⟨#[40]⟩, .int .i64 p.pc.n, .slice pa pm pc])
  have hB2 := hBz.alloc (.cells #[.int .i64 4, .int .i64 (p.pc.at_ : Int), .string ⟨#[40]⟩, .int .i64 p.pc.n, .slice pa pm pc] 102)
  have hs2 := size_alloc' W1 (.cells #[.int .i64 4, .int .i64 (p.pc.at_ : Int), .string ⟨#[40]⟩, .int .i64 p.pc.n, .slice pa pm pc] 102)
  rw [show ([.int .i64 4, .int .i64 (p.pc.at_ : Int), .string ⟨#[40]⟩, .int .i64 p.pc.n, .slice pa pm pc] : List Value).toArray = #[.int .i64 4, .int .i64 (p.pc.at_ : Int), .string ⟨#[40]⟩, .int .i64 p.pc.n, .slice pa pm pc] from rfl] at hP hnx2
  rw [hW2] at hP hnx2 hB2 hs2
  rw [hsz1] at hP
  have p0 := hP.cell 0
  have p1 := hP.cell 1
  have p2 := hP.cell 2
  simp only [List.getElem?_cons_zero, List.getElem?_cons_succ] at p0 p1 p2
  have pl := hP.lt
  have hgl1 : g < W1.heap.size := by omega
  rw [hW2] at hb1
  have d7 := (hb1.cell (p := ⟨g, 7, none⟩) hgl1).trans c7
  have d7f : W2.frozen? ⟨g, 7, none⟩ = false := by rw [hb1.frozen (p := ⟨g, 7, none⟩) hgl1]; exact f7
  have hgl2 : g < W2.heap.size := by omega
  have hwB := hB2.lt
  replace hP := Lib.hid hP
  replace hB2 := Lib.hid hB2
  replace hb2' := Lib.hid hb2'
  replace hW1 := Lib.hid hW1
  replace hW2 := Lib.hid hW2
  unfold zeroN nodeC at hW1
  clear hb2 hnx hBz f7 hb1
  go_enter Tryz.func70, Tryz.ntmps70
  go_upto_region 1 with fail
  rw [hW1.out]
  go_upto_region 4 with fail
  rw [hW2.out]
  go_upto_region 9 with fail
  have hO3 : Oly g W2 (W2.setCell ⟨g, 7, none⟩ (.int .i64 (E : Int))) := (Only.refl (fun k => k = g) W2).setCell (p := ⟨g, 7, none⟩) rfl _
  generalize World.setCell W2 _ _ = W3 at *
  have hs3 := hO3.size
  have hP3 := hP.out.only hO3 (by show ¬ w.heap.size + 1 = g; omega)
  have hB3 := hB2.out.only hO3 (by show ¬ w.heap.size = g; omega)
  have hOw3 : Oly g w W3 := Only.trans (Only.of_below hb2'.out) hO3
  clear p0 p1 p2 pl d7 d7f hP hB2 hb2' hO3 c0 c1 c2 c3 c4 c5 c6 c7 c8 c9 hwB
  replace hP3 := Lib.hid hP3
  replace hB3 := Lib.hid hB3
  replace hOw3 := Lib.hid hOw3
  go_upto_region 11 with (go_at_call 34; (with_reducible refine hnx2.out.mono ?_); rintro e w5 ⟨rfl, hO5, hN5⟩; replace hN5 := Lib.hid hN5)
  have hb5 : Below w5.heap.size w5 (w5.alloc (.cells zeroN.toArray 81)) := bl_alloc (Below.refl _ _) _
  have hs5 := size_alloc' w5 (.cells zeroN.toArray 81)
  have hg5 := hO5.size
  have hN5b : NextIn s g ⟨p.pc, p.at_, E⟩ W3.heap.size (w5.alloc (.cells zeroN.toArray 81)) := NextIn.only (K := fun _ => False) (show NextIn s g ⟨p.pc, p.at_, E⟩ W3.heap.size w5 from hN5.out) (Only.of_below hb5) id (fun _ _ => id)
  have hp5 := Lib.hid (hpart.out _ _ (by omega) hN5b)
  have hP5 := (hP3.out.only hO5 (by show ¬ w.heap.size + 1 = g; omega)).below hb5
  have hB5 := (hB3.out.only hO5 (by show ¬ w.heap.size = g; omega)).below hb5
  have hn5 := Blk.new w5 81 zeroN
  have hO5w : Oly g w (w5.alloc (.cells zeroN.toArray 81)) := Only.trans hOw3.out (Only.trans hO5 (Only.of_below hb5))
  have p2 := hP5.cell 2
  simp only [List.getElem?_cons_zero, List.getElem?_cons_succ] at p2
  have pl := hP5.lt
  clear hN5 hN5b hpart hP5 hP3 hB3 hnx2 hb5
  obtain ⟨w5a, hw5a⟩ : ∃ w5a, w5.alloc (.cells zeroN.toArray 81) = w5a := ⟨_, rfl⟩
  rw [hw5a] at hp5 hB5 hn5 hO5w p2 pl hs5
  replace hw5a := Lib.hid hw5a
  unfold zeroN nodeC at hw5a
  rw [hw5a.out]
  obtain ⟨nb, hnb⟩ : ∃ nb, w5.heap.size = nb := ⟨_, rfl⟩
  rw [hnb] at hn5 hs5 hg5 ⊢
  replace hB5 := Lib.hid hB5
  replace hn5 := Lib.hid hn5
  replace hO5w := Lib.hid hO5w
  replace hOw3 := Lib.hid hOw3
  replace hnb := Lib.hid hnb
  have hdo := Lib.hid (fun w6 (hO6 : Oly g w5a w6) => (⟨hn5.out.only hO6 (by show ¬ nb = g; omega), hB5.out.only hO6 (by show ¬ w.heap.size = g; omega), Only.trans hO5w.out hO6⟩ : Blk w6 nb 81 zeroN ∧ Blk w6 w.heap.size 81 zeroN ∧ Oly g w w6))
  clear hO5
  go_upto_region 14 with (go_at_call 35; (with_reducible refine hp5.out.mono ?_); rintro e w6 ⟨v, rfl, hsv, hO6, hD6⟩; obtain ⟨n6, b6, o6⟩ := hdo.out w6 hO6; have z60 : w6.cell? ⟨nb, 0, none⟩ = some (.string ⟨#[]⟩) := n6.cell 0; have z61 : w6.cell? ⟨nb, 1, none⟩ = some (.slice none 0 0) := n6.cell 1; have z62 : w6.cell? ⟨nb, 2, none⟩ = some (.string ⟨#[]⟩) := n6.cell 2; have z63 : w6.cell? ⟨nb, 3, none⟩ = some (.int .i64 0) := n6.cell 3; have z64 : w6.cell? ⟨nb, 4, none⟩ = some (.slice none 0 0) := n6.cell 4; have n60 := n6.free 0; have n61 := n6.free 1; have n62 := n6.free 2; have n63 := n6.free 3; have n64 := n6.free 4; have n6l := n6.lt; have hlo6 := hO6.size; have hlen6 := Lib.hid hsv.len; replace hD6 := Lib.hid hD6; replace n6 := Lib.hid n6; replace b6 := Lib.hid b6; replace o6 := Lib.hid o6; clear hO6; obtain ⟨xw, xa, xn, xc, xs, xm, xb, xbn, xbc, rfl⟩ := hsv; unfold nodeC at hD6 hlen6 ⊢)
  have hO7 : Only (fun k => k = nb) w6 (((((w6.setCell ⟨nb, 0, none⟩ (strV xw)).setCell ⟨nb, 1, none⟩ (.slice xa xn xc)).setCell ⟨nb, 2, none⟩ (strV xs)).setCell ⟨nb, 3, none⟩ (.int .i64 xm)).setCell ⟨nb, 4, none⟩ (.slice xb xbn xbc)) := (((((Only.refl (fun k => k = nb) _).setCell (p := ⟨nb, 0, none⟩) rfl _).setCell (p := ⟨nb, 1, none⟩) rfl _).setCell (p := ⟨nb, 2, none⟩) rfl _).setCell (p := ⟨nb, 3, none⟩) rfl _).setCell (p := ⟨nb, 4, none⟩) rfl _
  have n7 : Blk (((((w6.setCell ⟨nb, 0, none⟩ (strV xw)).setCell ⟨nb, 1, none⟩ (.slice xa xn xc)).setCell ⟨nb, 2, none⟩ (strV xs)).setCell ⟨nb, 3, none⟩ (.int .i64 xm)).setCell ⟨nb, 4, none⟩ (.slice xb xbn xbc)) nb 81 [strV xw, .slice xa xn xc, strV xs, .int .i64 xm, .slice xb xbn xbc] := ((((n6.out.set 0 (strV xw)).set 1 (.slice xa xn xc)).set 2 (strV xs)).set 3 (.int .i64 xm)).set 4 (.slice xb xbn xbc)
  have hwn : w.heap.size < nb := by omega
  have o7 : Oly g w (((((w6.setCell ⟨nb, 0, none⟩ (strV xw)).setCell ⟨nb, 1, none⟩ (.slice xa xn xc)).setCell ⟨nb, 2, none⟩ (strV xs)).setCell ⟨nb, 3, none⟩ (.int .i64 xm)).setCell ⟨nb, 4, none⟩ (.slice xb xbn xbc)) := only_fresh (only_fresh (only_fresh (only_fresh (only_fresh o6.out (by omega) 0 _) (by omega) 1 _) (by omega) 2 _) (by omega) 3 _) (by omega) 4 _
  have hs7 : ((((((w6.setCell ⟨nb, 0, none⟩ (strV xw)).setCell ⟨nb, 1, none⟩ (.slice xa xn xc)).setCell ⟨nb, 2, none⟩ (strV xs)).setCell ⟨nb, 3, none⟩ (.int .i64 xm)).setCell ⟨nb, 4, none⟩ (.slice xb xbn xbc))).heap.size = w6.heap.size := by simp [World.setCell]
  obtain ⟨w7, hw7⟩ : ∃ w7, (((((w6.setCell ⟨nb, 0, none⟩ (strV xw)).setCell ⟨nb, 1, none⟩ (.slice xa xn xc)).setCell ⟨nb, 2, none⟩ (strV xs)).setCell ⟨nb, 3, none⟩ (.int .i64 xm)).setCell ⟨nb, 4, none⟩ (.slice xb xbn xbc)) = w7 := ⟨_, rfl⟩
  rw [hw7] at hO7 n7 o7 hs7 ⊢
  replace hw7 := Lib.hid hw7
  have hD7 := hD6.out.only hO7 (by show ¬ g = nb; omega) (fun k hk e => by omega)
  have b7 := b6.out.only hO7 (by show ¬ w.heap.size = nb; omega)
  have hb7 : Below w7.heap.size w7 (w7.alloc (.cells #[.string ⟨#[41]⟩] 9)) := bl_alloc (Below.refl _ _) _
  have hs7b := size_alloc' w7 (.cells #[.string ⟨#[41]⟩] 9)
  have hst : StrsAt (w7.alloc (.cells #[.string ⟨#[41]⟩] 9)) w7.heap.size [[41]] := StrsAt.new w7 [[41]]
  have hD7b : DOut s g E (hopS s n .either p) [strV xw, .slice xa xn xc, strV xs, .int .i64 xm, .slice xb xbn xbc] w5a.heap.size (w7.alloc (.cells #[.string ⟨#[41]⟩] 9)) := hD7.only (K := fun _ => False) (Only.of_below hb7) id (fun _ _ => id)
  have hm7 := Lib.hid (shut_must hs hD7b (by omega) w7.heap.size hst (by omega))
  have hdo7 := Lib.hid (fun w8 (hO8 : Oly g (w7.alloc (.cells #[.string ⟨#[41]⟩] 9)) w8) => (⟨(n7.below hb7).only hO8 (by show ¬ nb = g; omega), (b7.below hb7).only hO8 (by show ¬ w.heap.size = g; omega), Only.trans o7 (Only.trans (Only.of_below hb7) hO8)⟩ : Blk w8 nb 81 [strV xw, .slice xa xn xc, strV xs, .int .i64 xm, .slice xb xbn xbc] ∧ Blk w8 w.heap.size 81 zeroN ∧ Oly g w w8))
  clear hO7 hD7 hD7b n6 b6 o6 z60 z61 z62 z63 z64 n60 n61 n62 n63 n64 hdo hD6 b7 o7 n7 hb7 hst
  replace hs7 := Lib.hid hs7
  replace hs7b := Lib.hid hs7b
  go_upto_region 15 with (go_at_call 93; (with_reducible refine hm7.out.mono ?_); rintro e W8 ⟨hO8, ⟨y, rfl, hy⟩, hD8⟩)
  obtain ⟨n8, b8, o8⟩ := hdo7.out W8 hO8
  clear hO8 hdo7
  have hdeep8 := hD8.deep
  have r0 := n8.cell 0
  have r1 := n8.cell 1
  have r2 := n8.cell 2
  have r3 := n8.cell 3
  have r4 := n8.cell 4
  simp only [List.getElem?_cons_zero, List.getElem?_cons_succ] at r0 r1 r2 r3 r4
  have x0 : W8.cell? ⟨w.heap.size, 0, none⟩ = some (.string ⟨#[]⟩) := b8.cell 0
  have x1 : W8.cell? ⟨w.heap.size, 1, none⟩ = some (.slice none 0 0) := b8.cell 1
  have x2 : W8.cell? ⟨w.heap.size, 2, none⟩ = some (.string ⟨#[]⟩) := b8.cell 2
  have x3 : W8.cell? ⟨w.heap.size, 3, none⟩ = some (.int .i64 0) := b8.cell 3
  have x4 : W8.cell? ⟨w.heap.size, 4, none⟩ = some (.slice none 0 0) := b8.cell 4
  have y0 := b8.free 0
  have y1 := b8.free 1
  have y2 := b8.free 2
  have y3 := b8.free 3
  have y4 := b8.free 4
  have nl8 := n8.lt
  have bl8 := b8.lt
  obtain ⟨g7, g7f, g7l⟩ := hdeep8
  have hnbv := hnb.out
  have hrise := Lib.hid (DOut.rise (d := D) (B := w.heap.size) (w := w) (by rw [hEE.out]; exact hD8) ⟨_, _, _, _, _, rfl⟩ ⟨_, _, _, _, _, _, _, _, _, rfl⟩ o8 rfl hgw (by omega) b8 _ _ _ _ _ rfl)
  clear hD8 n8 b8 o8
  go_wp2_with fail
  obtain ⟨q1, q2⟩ := hrise.out
  have e0 := q1.cell 0
  have e1 := q1.cell 1
  have e2 := q1.cell 2
  have e3 := q1.cell 3
  have e4 := q1.cell 4
  simp only [List.getElem?_cons_zero, List.getElem?_cons_succ] at e0 e1 e2 e3 e4
  clear q1
  refine bodyPost_ret (v := .agg #[strV xw, .slice xa xn xc, strV xs, .int .i64 xm, .slice xb xbn xbc]) ?_ rfl q2
  simp [results, Tryz.results70, go_sem, e0, e1, e2, e3, e4]
end Go.Proofs.YtcjcflmnghhbaaaGreat
/-
  The reference's part: too deep; of chapter 27. (Printed by gen_rq7.py.)
  Conditions: as each theorem states them.
-/
namespace Go.Proofs.YtcjcflmnghhbaaaGreat
open Go.RowKit
set_option linter.unusedVariables false
set_option linter.unusedSimpArgs false
open CM (Pc Ps)
set_option maxHeartbeats 8000000 in
set_option maxRecDepth 100000 in
theorem rpart_not_deep {s : List UInt8} {n : Nat} {p : Ps} {w : World} {g nn : Nat} (hG : Good nn w g s p) (hsg : Sg p.pc) (hi : p.pc.is 1 CM.notW = true) (hd : p.deep = 20) : Calls Tryz.prog 70 #[.pointer (some ⟨g, 0, none⟩)] w (ROut s g p.deep (CM.run s (n + 1) .part p) w) := by
  rw [run_deep (.inl hi) hd]
  have hkk : (rIs p.pc 1 CM.notW = true) := by rw [rIs_word]; exact hi
  unfold rIs at hkk
  simp only [Bool.and_eq_true, beq_iff_eq] at hkk
  obtain ⟨hk1, hk2⟩ := hkk
  have hgw := hG.lt
  have hwle : (20 : Int) ≤ 20 := by omega
  have hBz := Blk.new w 81 zeroN
  have hsz1 := size_alloc' w (.cells zeroN.toArray 81)
  obtain ⟨pa, pm, pc, hB, _⟩ := hG
  have hBW : RAt (w.alloc (.cells zeroN.toArray 81)) g s (rdOf p pa pm pc) := hB.below (bl_alloc (Below.refl _ _) _)
  obtain ⟨c0, c1, c2, c3, c4, c5, c6, c7, c8, c9⟩ := RAt.facts hBW
  simp only [rdOf] at c1 c2 c3 c4 c5 c6 c7 c8 c9
  rw [hk1] at c2
  rw [hk2] at c4
  have hOw1 : Oly g w (w.alloc (.cells zeroN.toArray 81)) := Only.of_below (bl_alloc (Below.refl _ _) _)
  rw [hd] at c7 ⊢
  obtain ⟨W1, hW1⟩ : ∃ W1, w.alloc (.cells zeroN.toArray 81) = W1 := ⟨_, rfl⟩
  rw [hW1] at hBW hBz hsz1 c0 c1 c2 c3 c4 c5 c6 c7 c8 c9 hOw1
  have hb1 : Below W1.heap.size W1 (W1.alloc (.cells #[.int .i64 1, .int .i64 (p.pc.at_ : Int), .string ⟨#[110, 111, 116]⟩, .int .i64 p.pc.n, .slice pa pm pc] 102)) := bl_alloc (Below.refl _ _) _
  have hP := Blk.new W1 102 [.int .i64 1, .int .i64 (p.pc.at_ : Int), .string ⟨#[110, 111, 116]⟩, .int .i64 p.pc.n, .slice pa pm pc]
  rw [show ([.int .i64 1, .int .i64 (p.pc.at_ : Int), .string ⟨#[110, 111, 116]⟩, .int .i64 p.pc.n, .slice pa pm pc] : List Value).toArray = #[.int .i64 1, .int .i64 (p.pc.at_ : Int), .string ⟨#[110, 111, 116]⟩, .int .i64 p.pc.n, .slice pa pm pc] from rfl] at hP
  obtain ⟨W2, hW2⟩ : ∃ W2, W1.alloc (.cells #[.int .i64 1, .int .i64 (p.pc.at_ : Int), .string ⟨#[110, 111, 116]⟩, .int .i64 p.pc.n, .slice pa pm pc] 102) = W2 := ⟨_, rfl⟩
  rw [hW2] at hP hb1
  have hgl1 : g < W1.heap.size := by omega
  have hs2 := hb1.size
  rw [hsz1] at hP
  have p0 := hP.cell 0
  have p1 := hP.cell 1
  have p2 := hP.cell 2
  simp only [List.getElem?_cons_zero, List.getElem?_cons_succ] at p0 p1 p2
  have pl := hP.lt
  have d7 := (hb1.cell (p := ⟨g, 7, none⟩) hgl1).trans c7
  have hgl2 : g < W2.heap.size := by omega
  have hfl := Lib.hid (rfail_ok (hBW.below hb1) rfl p.pc.at_ 7)
  have hB2 := hBz.below hb1
  have hkeep := Lib.hid (fun w' (ho : Oly g W2 w') => (⟨hB2.only ho (by show ¬ w.heap.size = g; omega), Only.trans hOw1 (Only.trans (Only.of_below hb1) ho)⟩ : Blk w' w.heap.size 81 zeroN ∧ Oly g w w'))
  have hdd := Lib.hid hd
  replace hW1 := Lib.hid hW1
  replace hW2 := Lib.hid hW2
  unfold zeroN nodeC at hW1
  clear hb1 hB2 hBz hBW hP hk1 hk2 hi hsg hd hB hOw1
  go_enter Tryz.func70, Tryz.ntmps70
  go_upto_region 1 with fail
  rw [hW1.out]
  go_upto_region 4 with fail
  rw [hW2.out]
  go_upto_region 7 with (go_at_call 36; (with_reducible refine hfl.out.mono ?_); rintro e w5 ⟨rfl, hB5, hO5⟩)
  obtain ⟨b5, o5⟩ := hkeep.out w5 hO5
  have x0 : w5.cell? ⟨w.heap.size, 0, none⟩ = some (.string ⟨#[]⟩) := b5.cell 0
  have x1 : w5.cell? ⟨w.heap.size, 1, none⟩ = some (.slice none 0 0) := b5.cell 1
  have x2 : w5.cell? ⟨w.heap.size, 2, none⟩ = some (.string ⟨#[]⟩) := b5.cell 2
  have x3 : w5.cell? ⟨w.heap.size, 3, none⟩ = some (.int .i64 0) := b5.cell 3
  have x4 : w5.cell? ⟨w.heap.size, 4, none⟩ = some (.slice none 0 0) := b5.cell 4
  have y0 := b5.free 0
  have y1 := b5.free 1
  have y2 := b5.free 2
  have y3 := b5.free 3
  have y4 := b5.free 4
  have bl5 := b5.lt
  have hres := Lib.hid (show Blk (((((w5.setCell ⟨w.heap.size, 0, none⟩ (.string ⟨#[]⟩)).setCell ⟨w.heap.size, 1, none⟩ (.slice none 0 0)).setCell ⟨w.heap.size, 2, none⟩ (.string ⟨#[]⟩)).setCell ⟨w.heap.size, 3, none⟩ (.int .i64 0)).setCell ⟨w.heap.size, 4, none⟩ (.slice none 0 0)) w.heap.size 81 [.string ⟨#[]⟩, .slice none 0 0, .string ⟨#[]⟩, .int .i64 0, .slice none 0 0] from ((((b5.set 0 (.string ⟨#[]⟩)).set 1 (.slice none 0 0)).set 2 (.string ⟨#[]⟩)).set 3 (.int .i64 0)).set 4 (.slice none 0 0))
  have hO9 : Only (fun k => k = w.heap.size) w5 (((((w5.setCell ⟨w.heap.size, 0, none⟩ (.string ⟨#[]⟩)).setCell ⟨w.heap.size, 1, none⟩ (.slice none 0 0)).setCell ⟨w.heap.size, 2, none⟩ (.string ⟨#[]⟩)).setCell ⟨w.heap.size, 3, none⟩ (.int .i64 0)).setCell ⟨w.heap.size, 4, none⟩ (.slice none 0 0)) := (((((Only.refl (fun k => k = w.heap.size) _).setCell (p := ⟨w.heap.size, 0, none⟩) rfl _).setCell (p := ⟨w.heap.size, 1, none⟩) rfl _).setCell (p := ⟨w.heap.size, 2, none⟩) rfl _).setCell (p := ⟨w.heap.size, 3, none⟩) rfl _).setCell (p := ⟨w.heap.size, 4, none⟩) rfl _
  have hBad5 : Bad w5 g s 20 p.pc.at_ 7 := ⟨_, hB5, by show ((p.deep : Nat) : Int) = _; rw [hdd.out], rfl, rfl, by decide⟩
  have hfin := Lib.hid (ROut.err (s := s) (g := g) (d := 20) (R := .error (p.pc.at_, 7)) (w := w) (v := [.string ⟨#[]⟩, .slice none 0 0, .string ⟨#[]⟩, .int .i64 0, .slice none 0 0]) rfl (only_fresh (only_fresh (only_fresh (only_fresh (only_fresh o5 (Nat.le_refl _) 0 (.string ⟨#[]⟩)) (Nat.le_refl _) 1 (.slice none 0 0)) (Nat.le_refl _) 2 (.string ⟨#[]⟩)) (Nat.le_refl _) 3 (.int .i64 0)) (Nat.le_refl _) 4 (.slice none 0 0)) ⟨[], none, 0, 0, [], 0, none, 0, 0, rfl⟩ (hBad5.only hO9 (by show ¬ g = w.heap.size; omega)))
  clear hO9 hBad5 b5 o5 hB5 hO5 hkeep
  go_wp2_with fail
  have q1 := hres.out
  have e0 := q1.cell 0
  have e1 := q1.cell 1
  have e2 := q1.cell 2
  have e3 := q1.cell 3
  have e4 := q1.cell 4
  simp only [List.getElem?_cons_zero, List.getElem?_cons_succ] at e0 e1 e2 e3 e4
  clear q1
  refine bodyPost_ret (v := .agg #[.string ⟨#[]⟩, .slice none 0 0, .string ⟨#[]⟩, .int .i64 0, .slice none 0 0]) ?_ rfl hfin.out
  simp [results, Tryz.results70, go_sem, e0, e1, e2, e3, e4]
set_option maxHeartbeats 8000000 in
set_option maxRecDepth 100000 in
theorem rpart_paren_deep {s : List UInt8} {n : Nat} {p : Ps} {w : World} {g nn : Nat} (hG : Good nn w g s p) (hsg : Sg p.pc) (hi : p.pc.is 5 [40] = true) (hd : p.deep = 20) : Calls Tryz.prog 70 #[.pointer (some ⟨g, 0, none⟩)] w (ROut s g p.deep (CM.run s (n + 1) .part p) w) := by
  rw [run_deep (.inr hi) hd]
  have hkk : (rIs p.pc 4 [40] = true) := by rw [rIs_open hsg]; exact hi
  unfold rIs at hkk
  simp only [Bool.and_eq_true, beq_iff_eq] at hkk
  obtain ⟨hk1, hk2⟩ := hkk
  have hgw := hG.lt
  have hwle : (20 : Int) ≤ 20 := by omega
  have hBz := Blk.new w 81 zeroN
  have hsz1 := size_alloc' w (.cells zeroN.toArray 81)
  obtain ⟨pa, pm, pc, hB, _⟩ := hG
  have hBW : RAt (w.alloc (.cells zeroN.toArray 81)) g s (rdOf p pa pm pc) := hB.below (bl_alloc (Below.refl _ _) _)
  obtain ⟨c0, c1, c2, c3, c4, c5, c6, c7, c8, c9⟩ := RAt.facts hBW
  simp only [rdOf] at c1 c2 c3 c4 c5 c6 c7 c8 c9
  rw [hk1] at c2
  rw [hk2] at c4
  have hOw1 : Oly g w (w.alloc (.cells zeroN.toArray 81)) := Only.of_below (bl_alloc (Below.refl _ _) _)
  rw [hd] at c7 ⊢
  obtain ⟨W1, hW1⟩ : ∃ W1, w.alloc (.cells zeroN.toArray 81) = W1 := ⟨_, rfl⟩
  rw [hW1] at hBW hBz hsz1 c0 c1 c2 c3 c4 c5 c6 c7 c8 c9 hOw1
  have hb1 : Below W1.heap.size W1 (W1.alloc (.cells #[.int .i64 4, .int .i64 (p.pc.at_ : Int), .string ⟨#[40]⟩, .int .i64 p.pc.n, .slice pa pm pc] 102)) := bl_alloc (Below.refl _ _) _
  have hP := Blk.new W1 102 [.int .i64 4, .int .i64 (p.pc.at_ : Int), .string ⟨#[40]⟩, .int .i64 p.pc.n, .slice pa pm pc]
  rw [show ([.int .i64 4, .int .i64 (p.pc.at_ : Int), .string ⟨#[40]⟩, .int .i64 p.pc.n, .slice pa pm pc] : List Value).toArray = #[.int .i64 4, .int .i64 (p.pc.at_ : Int), .string ⟨#[40]⟩, .int .i64 p.pc.n, .slice pa pm pc] from rfl] at hP
  obtain ⟨W2, hW2⟩ : ∃ W2, W1.alloc (.cells #[.int .i64 4, .int .i64 (p.pc.at_ : Int), .string ⟨#[40]⟩, .int .i64 p.pc.n, .slice pa pm pc] 102) = W2 := ⟨_, rfl⟩
  rw [hW2] at hP hb1
  have hgl1 : g < W1.heap.size := by omega
  have hs2 := hb1.size
  rw [hsz1] at hP
  have p0 := hP.cell 0
  have p1 := hP.cell 1
  have p2 := hP.cell 2
  simp only [List.getElem?_cons_zero, List.getElem?_cons_succ] at p0 p1 p2
  have pl := hP.lt
  have d7 := (hb1.cell (p := ⟨g, 7, none⟩) hgl1).trans c7
  have hgl2 : g < W2.heap.size := by omega
  have hfl := Lib.hid (rfail_ok (hBW.below hb1) rfl p.pc.at_ 7)
  have hB2 := hBz.below hb1
  have hkeep := Lib.hid (fun w' (ho : Oly g W2 w') => (⟨hB2.only ho (by show ¬ w.heap.size = g; omega), Only.trans hOw1 (Only.trans (Only.of_below hb1) ho)⟩ : Blk w' w.heap.size 81 zeroN ∧ Oly g w w'))
  have hdd := Lib.hid hd
  replace hW1 := Lib.hid hW1
  replace hW2 := Lib.hid hW2
  unfold zeroN nodeC at hW1
  clear hb1 hB2 hBz hBW hP hk1 hk2 hi hsg hd hB hOw1
  go_enter Tryz.func70, Tryz.ntmps70
  go_upto_region 1 with fail
  rw [hW1.out]
  go_upto_region 4 with fail
  rw [hW2.out]
  go_upto_region 7 with (go_at_call 36; (with_reducible refine hfl.out.mono ?_); rintro e w5 ⟨rfl, hB5, hO5⟩)
  obtain ⟨b5, o5⟩ := hkeep.out w5 hO5
  have x0 : w5.cell? ⟨w.heap.size, 0, none⟩ = some (.string ⟨#[]⟩) := b5.cell 0
  have x1 : w5.cell? ⟨w.heap.size, 1, none⟩ = some (.slice none 0 0) := b5.cell 1
  have x2 : w5.cell? ⟨w.heap.size, 2, none⟩ = some (.string ⟨#[]⟩) := b5.cell 2
  have x3 : w5.cell? ⟨w.heap.size, 3, none⟩ = some (.int .i64 0) := b5.cell 3
  have x4 : w5.cell? ⟨w.heap.size, 4, none⟩ = some (.slice none 0 0) := b5.cell 4
  have y0 := b5.free 0
  have y1 := b5.free 1
  have y2 := b5.free 2
  have y3 := b5.free 3
  have y4 := b5.free 4
  have bl5 := b5.lt
  have hres := Lib.hid (show Blk (((((w5.setCell ⟨w.heap.size, 0, none⟩ (.string ⟨#[]⟩)).setCell ⟨w.heap.size, 1, none⟩ (.slice none 0 0)).setCell ⟨w.heap.size, 2, none⟩ (.string ⟨#[]⟩)).setCell ⟨w.heap.size, 3, none⟩ (.int .i64 0)).setCell ⟨w.heap.size, 4, none⟩ (.slice none 0 0)) w.heap.size 81 [.string ⟨#[]⟩, .slice none 0 0, .string ⟨#[]⟩, .int .i64 0, .slice none 0 0] from ((((b5.set 0 (.string ⟨#[]⟩)).set 1 (.slice none 0 0)).set 2 (.string ⟨#[]⟩)).set 3 (.int .i64 0)).set 4 (.slice none 0 0))
  have hO9 : Only (fun k => k = w.heap.size) w5 (((((w5.setCell ⟨w.heap.size, 0, none⟩ (.string ⟨#[]⟩)).setCell ⟨w.heap.size, 1, none⟩ (.slice none 0 0)).setCell ⟨w.heap.size, 2, none⟩ (.string ⟨#[]⟩)).setCell ⟨w.heap.size, 3, none⟩ (.int .i64 0)).setCell ⟨w.heap.size, 4, none⟩ (.slice none 0 0)) := (((((Only.refl (fun k => k = w.heap.size) _).setCell (p := ⟨w.heap.size, 0, none⟩) rfl _).setCell (p := ⟨w.heap.size, 1, none⟩) rfl _).setCell (p := ⟨w.heap.size, 2, none⟩) rfl _).setCell (p := ⟨w.heap.size, 3, none⟩) rfl _).setCell (p := ⟨w.heap.size, 4, none⟩) rfl _
  have hBad5 : Bad w5 g s 20 p.pc.at_ 7 := ⟨_, hB5, by show ((p.deep : Nat) : Int) = _; rw [hdd.out], rfl, rfl, by decide⟩
  have hfin := Lib.hid (ROut.err (s := s) (g := g) (d := 20) (R := .error (p.pc.at_, 7)) (w := w) (v := [.string ⟨#[]⟩, .slice none 0 0, .string ⟨#[]⟩, .int .i64 0, .slice none 0 0]) rfl (only_fresh (only_fresh (only_fresh (only_fresh (only_fresh o5 (Nat.le_refl _) 0 (.string ⟨#[]⟩)) (Nat.le_refl _) 1 (.slice none 0 0)) (Nat.le_refl _) 2 (.string ⟨#[]⟩)) (Nat.le_refl _) 3 (.int .i64 0)) (Nat.le_refl _) 4 (.slice none 0 0)) ⟨[], none, 0, 0, [], 0, none, 0, 0, rfl⟩ (hBad5.only hO9 (by show ¬ g = w.heap.size; omega)))
  clear hO9 hBad5 b5 o5 hB5 hO5 hkeep
  go_wp2_with fail
  have q1 := hres.out
  have e0 := q1.cell 0
  have e1 := q1.cell 1
  have e2 := q1.cell 2
  have e3 := q1.cell 3
  have e4 := q1.cell 4
  simp only [List.getElem?_cons_zero, List.getElem?_cons_succ] at e0 e1 e2 e3 e4
  clear q1
  refine bodyPost_ret (v := .agg #[.string ⟨#[]⟩, .slice none 0 0, .string ⟨#[]⟩, .int .i64 0, .slice none 0 0]) ?_ rfl hfin.out
  simp [results, Tryz.results70, go_sem, e0, e1, e2, e3, e4]
end Go.Proofs.YtcjcflmnghhbaaaGreat
/-
  The reference's part: the words that a part starts with; of chapter 27. (Printed by gen_rq8.py.)
  Conditions: as each theorem states them.
-/
namespace Go.Proofs.YtcjcflmnghhbaaaGreat
open Go.RowKit
set_option linter.unusedVariables false
set_option linter.unusedSimpArgs false
open CM (Pc Ps)
theorem infoStrR : (Tryz.prog.info? 9).map (fun i => (i.zero, i.size, i.bytes)) = some (some (.string ⟨#[]⟩), 1, 16) := by kernel_rfl
theorem strs_one (l : List (List UInt8)) : ∀ u ∈ l.map strV, u.oneCell' = true := by
  intro u hu
  obtain ⟨x, _, rfl⟩ := List.mem_map.1 hu
  rfl
def startsL : List (List UInt8) := numsL ++ txtsL ++ flgsL ++ [CM.phaseW]
theorem own_strs {w : World} {base k : Nat} {v : Value} {n : Nat} {l : List (List UInt8)} (h : w.ownsRow base k 1 v n (l.map strV)) (h0 : 0 < n) : ∃ r c, v = .slice (some ⟨r, 0, none⟩) n c ∧ StrsAt w r l ∧ base ≤ r := by
  rcases h.2 with ⟨_, h2⟩ | ⟨r, cap, cur, h1, h2, h3, h4, h5, h6, h7⟩
  · omega
  · refine ⟨r, cap, h1, ⟨(Array.getElem?_eq_some_iff.1 h3).1, fun i hi => ?_⟩, h2⟩
    have hl : l.length = n := by have := h.1; simpa using this
    have e := congrArg (fun x => x[i]?) h7
    simp only [List.getElem?_take, List.getElem?_map, List.getElem?_eq_getElem hi, Option.map_some] at e
    rw [if_pos (by omega)] at e
    simp only [World.cell?, h3]
    simpa using e
/-- what the first must leaves -/
def AtomIn (s : List UInt8) (g : Nat) (p : Ps) (t : List UInt8) (w w' : World) : Prop := (∃ a x, CM.atomS s p = .error (a, x) ∧ Bad w' g s p.deep a x) ∨ ∃ q, p.next s = .ok q ∧ p.pc.kind = 1 ∧ t = p.pc.s ∧ inS t startsL = true ∧ Good w.heap.size w' g s q
theorem starts_none {x : List UInt8} (h : inS x startsL = false) : CM.flagOf x = none ∧ CM.numOf x = none ∧ CM.txtOf x = none ∧ x ≠ CM.phaseW := by
  have h2 := h
  unfold inS startsL at h2
  simp only [List.any_append, Bool.or_eq_false_iff] at h2
  obtain ⟨⟨⟨h3, h4⟩, h5⟩, h6⟩ := h2
  have a1 := in_nums x
  have a2 := in_txts x
  have a3 := in_flgs x
  unfold inS at a1 a2 a3
  rw [h3] at a1
  rw [h4] at a2
  rw [h5] at a3
  refine ⟨Option.isNone_iff_eq_none.1 (by rw [← Option.not_isSome, ← a3]; rfl), Option.isNone_iff_eq_none.1 (by rw [← Option.not_isSome, ← a1]; rfl), Option.isNone_iff_eq_none.1 (by rw [← Option.not_isSome, ← a2]; rfl), fun e => ?_⟩
  subst e
  simp at h6
theorem atom_must {s : List UInt8} (hs : s.length ≤ 4096) {p : Ps} {w : World} {g nn : Nat} (hG : Good nn w g s p) (hgn : g < nn) (hnw : nn ≤ w.heap.size) (hok : CM.Ok s p) (r c : Nat) (hr : StrsAt w r startsL) :
    Calls Tryz.prog 93 #[.pointer (some ⟨g, 0, none⟩), .int .i64 1, .slice (some ⟨r, 0, none⟩) 14 c] w fun e w' => ∃ (k a : Nat) (t : List UInt8) (m : Int) (pa : Option Addr) (pm pc : Nat), e = .returned (.agg #[.int .i64 (k : Int), .int .i64 (a : Int), strV t, .int .i64 m, .slice pa pm pc]) ∧ Oly g w w' ∧ AtomIn s g p t w w' := by
  have hbad : (CM.atomS s p = .error (p.pc.at_, 9)) → Calls Tryz.prog 93 #[.pointer (some ⟨g, 0, none⟩), .int .i64 1, .slice (some ⟨r, 0, none⟩) 14 c] w (fun e w' => Oly g w w' ∧ Bad w' g s p.deep p.pc.at_ 9 ∧ ∃ v, e = .returned v ∧ SomeP v) → Calls Tryz.prog 93 #[.pointer (some ⟨g, 0, none⟩), .int .i64 1, .slice (some ⟨r, 0, none⟩) 14 c] w fun e w' => ∃ (k a : Nat) (t : List UInt8) (m : Int) (pa : Option Addr) (pm pc : Nat), e = .returned (.agg #[.int .i64 (k : Int), .int .i64 (a : Int), strV t, .int .i64 m, .slice pa pm pc]) ∧ Oly g w w' ∧ AtomIn s g p t w w' := fun hat h => by
    refine h.mono ?_
    rintro e w6 ⟨o, hB, v, rfl, k, a, t, m, pa, pm, pc, rfl⟩
    exact ⟨k, a, t, m, pa, pm, pc, rfl, o, .inl ⟨_, _, hat, hB⟩⟩
  by_cases hk : p.pc.kind = 1
  · have hrk : rk p.pc.kind = 1 := by rw [hk]; rfl
    have hrs : rs p.pc = p.pc.s := by unfold rs; rw [if_neg (by omega)]
    cases hin : inS p.pc.s startsL with
    | true =>
      refine (must_yes s hs p hok.le nn w g hG hgn hnw 1 startsL 14 r c rfl hr (by decide) (by decide) hrk (by rw [hrs]; exact hin)).mono ?_
      rintro e w6 ⟨o, hN, v, rfl, pa, pm, pc, rfl, _⟩
      refine ⟨_, _, _, _, _, _, _, rfl, o, ?_⟩
      unfold NextIn at hN
      cases hn : p.next s with
      | error e =>
        obtain ⟨a, x⟩ := e
        rw [hn] at hN
        simp only at hN
        refine .inl ⟨a, x, ?_, hN⟩
        unfold CM.atomS
        rw [if_pos hk, hn]
        simp only
        cases h1 : CM.flagOf p.pc.s with
        | some f => rfl
        | none => cases h2 : CM.numOf p.pc.s with
          | some f => rfl
          | none => cases h3 : CM.txtOf p.pc.s with
            | some f => rfl
            | none =>
              simp only
              by_cases h4 : p.pc.s = CM.phaseW
              · rw [if_pos h4]
              · exfalso
                unfold inS startsL at hin
                have a1 := in_nums p.pc.s
                have a2 := in_txts p.pc.s
                have a3 := in_flgs p.pc.s
                unfold inS at a1 a2 a3
                rw [h1] at a3
                rw [h2] at a1
                rw [h3] at a2
                simp only [List.any_append, a1, a2, a3, List.any_cons, List.any_nil, Option.isSome_none, Bool.false_or, Bool.or_false, beq_iff_eq] at hin
                exact h4 hin.symm
      | ok q =>
        rw [hn] at hN
        simp only at hN
        exact .inr ⟨q, hn, hk, hrs, by rw [hrs]; exact hin, hN⟩
    | false =>
      obtain ⟨n1, n2, n3, n4⟩ := starts_none hin
      refine hbad ?_ (must_none s hs p hok.le nn w g hG hgn hnw 1 startsL 14 r c rfl hr (by decide) (by decide) hrk (by rw [hrs]; exact hin))
      unfold CM.atomS
      rw [if_pos hk, n1, n2, n3]
      simp only
      rw [if_neg n4]
  · refine hbad ?_ (must_other s hs p hok.le nn w g hG hgn hnw 1 _ ?_)
    · unfold CM.atomS; rw [if_neg hk]
    · unfold rk; split <;> omega
end Go.Proofs.YtcjcflmnghhbaaaGreat
