/-
  Stops.Add; of chapter 28.
  Conditions: as each theorem states them.
-/
import Derived.Test.YtcjcflmnghhbaaaGreatStopPa
import Derived.Test.YtcjcflmnghhbaaaGreatCondE
namespace Go.Proofs.YtcjcflmnghhbaaaGreat
open Go.RowKit
set_option linter.unusedVariables false
set_option linter.unusedSimpArgs false
theorem StopsR.box {N : Nat} {W : World} {p : Nat} {v : Value} {l : List Stp} {last : Int} {g : Nat} (h : StopsR N W p v l last) (hH : ∀ y ∈ l, ∀ cb lo hi phi, y.c = some (cb, lo, hi, phi) → hi ≤ g) (hgp : g ≠ p) (hgv : v.ownBlock ≠ some g) (j : Nat) (u : Value) : StopsR N (W.setCell ⟨g, j, none⟩ u) p v l last := by
  have hO : Only (fun k => k = g) W (W.setCell ⟨g, j, none⟩ u) := (Only.refl (fun k => k = g) W).setCell (p := ⟨g, j, none⟩) rfl u
  refine ⟨h.np, h.blk.set_other (p := ⟨g, j, none⟩) hgp _, ?_, h.apart, fun y hy cb lo hi phi e => ?_⟩
  · refine ⟨h.row.1, ?_⟩
    rcases h.row.2 with h1 | ⟨g2, cap, cur, h1, h2, h3, h4⟩
    · exact .inl h1
    · exact .inr ⟨g2, cap, cur, h1, h2, (hO.block g2 (Array.getElem?_eq_some_iff.1 h3).1 (fun e => hgv (by rw [h1, ← e]; rfl))).trans h3, h4⟩
  · obtain ⟨h1, h2, h3⟩ := h.conds y hy cb lo hi phi e
    exact ⟨h1.only hO (fun k hk => .inr (by rw [hk]; exact hH y hy cb lo hi phi e)), h2, h3⟩
theorem ownsRow_only {K : Nat → Prop} {w w' : World} {base : Nat} {e : TypeId} {size : Nat} {v : Value} {n : Nat} {xs : List Value} (h : w.ownsRow base e size v n xs) (ho : Only K w w') (hn : ∀ r, v.ownBlock = some r → ¬ K r) : w'.ownsRow base e size v n xs := by
  refine ⟨h.1, ?_⟩
  rcases h.2 with h1 | ⟨g2, cap, cur, h1, h2, h3, h4⟩
  · exact .inl h1
  · exact .inr ⟨g2, cap, cur, h1, h2, (ho.block g2 (Array.getElem?_eq_some_iff.1 h3).1 (hn g2 (by rw [h1]; rfl))).trans h3, h4⟩
set_option maxHeartbeats 4000000 in
set_option maxRecDepth 100000 in
theorem add_any {N p : Nat} {l : List Stp} {last : Int} (kind n : Int) (s : List UInt8) (W : World) (h : StopsAt N W p l last) (hN : N ≤ W.heap.size) (hl : l.length ≤ 32) (h0 : 0 ≤ last) (h1 : last ≤ 1000000000) :
    Calls Tryz.prog 11 #[.pointer (some ⟨p, 0, none⟩), .int .i64 kind, .int .i64 n, strV s] W fun e w' => AddIs N p l last kind n s e w' ∧ Below N W w' := by
  obtain ⟨i0, hi, hz0, hz1, hz2⟩ := info_parts infoStp
  obtain ⟨v, hR⟩ := h
  have hgp : p < W.heap.size := hR.blk.lt
  have hgv : v.ownBlock ≠ some W.heap.size := fun e => by have := (hR.row.lt _ e).2; omega
  have hpa := Lib.hid (fun w' => cparse_in s w')
  obtain ⟨va, vc, rfl⟩ := own_slice hR.row
  have hH := Lib.hid (fun y (hy : y ∈ l) cb lo hi phi (e : y.c = some (cb, lo, hi, phi)) => (hR.conds y hy cb lo hi phi e).1.hi)
  have hvl := Lib.hid (fun r (hr : (Value.slice va l.length vc).ownBlock = some r) => (hR.row.lt r hr).2)
  replace hR := Lib.hid hR
  go_enter Tryz.func11, Tryz.ntmps11
  go_upto_block 0 with fail
  have hX1 : Blk (W.alloc (.cells #[.int .i64 0, .int .i64 kind, .int .i64 n, .string ⟨#[]⟩, .bool false, .pointer none] 75)) W.heap.size 75 [.int .i64 0, .int .i64 kind, .int .i64 n, .string ⟨#[]⟩, .bool false, .pointer none] := Blk.new W 75 [.int .i64 0, .int .i64 kind, .int .i64 n, .string ⟨#[]⟩, .bool false, .pointer none]
  generalize hW1 : World.alloc W _ = W1 at *
  have hb1 : Below W.heap.size W W1 := by rw [← hW1]; exact bl_alloc (Below.refl _ _) _
  have hR1 := hR.out.below hb1
  have hB1 : Below N W W1 := hb1.mono hN
  have hg1 : W.heap.size < W1.heap.size := hX1.lt
  generalize hg : W.heap.size = g at *
  replace hR1 := Lib.hid hR1
  replace hb1 := Lib.hid hb1
  replace hB1 := Lib.hid hB1
  replace hX1 := Lib.hid hX1
  clear hW1 hR
  go_cut [9, 10] from 18 to 52 (fun s9 s10 wx => s9 = .int .i64 0 ∧ s10 = .int .i64 0 ∧ ∃ o, Hid (AddR N p g (.slice va l.length vc) l last kind n s o wx) ∧ Hid (Below N W wx))
  case first =>
    have hnone := Lib.hid (fun (kd : Int) (hk : kind = kd) (hkd : kd = 0 ∨ kd = 1) (hq : addS (l.length == 32) kind n s = (if l.length == 32 then .error (0, 7) else .ok none)) => (⟨none, Lib.hid ⟨hq, none, (by have := hX1.out; rcases hkd with rfl | rfl <;> (subst hk; exact this)), CAt.none rfl, (fun _ _ _ _ e => by cases e), rfl, hR1.out⟩, hB1⟩ : ∃ o, Hid (AddR N p g (.slice va l.length vc) l last kind n s o W1) ∧ Hid (Below N W W1)))
    have herr := Lib.hid (fun (a x : Int) (hq : addS (l.length == 32) kind n s = .error (a, x)) => (⟨AddIs.err hq ⟨_, hR1.out⟩, hB1.out⟩ : AddIs N p l last kind n s (.returned (.tuple #[.int .i64 0, .int .i64 a, .int .i64 x])) W1 ∧ Below N W W1))
    by_cases k0 : kind = 0
    · rcases (by omega : n < 0 ∨ (¬ n < 0 ∧ 200 < n) ∨ (0 ≤ n ∧ n ≤ 200)) with h | ⟨h, h'⟩ | ⟨h, h'⟩
      · have hr := Lib.hid (herr.out 0 3 (by unfold addS; rw [if_pos k0, if_pos (by omega)]))
        clear hnone herr hpa
        subst k0
        go_wp2_with fail
        go_ret3
        exact hr.out
      · have hr := Lib.hid (herr.out 0 3 (by unfold addS; rw [if_pos k0, if_pos (by omega)]))
        clear hnone herr hpa
        subst k0
        go_wp2_with fail
        go_ret3
        exact hr.out
      · have hr := Lib.hid (hnone.out 0 k0 (.inl rfl) (by unfold addS; rw [if_pos k0, if_neg (by omega)]))
        have q1 : ¬ n < 0 := by omega
        have q2 : ¬ 200 < n := by omega
        clear hnone herr hpa
        subst k0
        go_wp2_with fail
        go_meet
        exact ⟨rfl, rfl, hr.out⟩
    · have hq0 : (kind == 0) = false := by simpa using k0
      by_cases k1 : kind = 1
      · rcases (by omega : n < 1 ∨ (¬ n < 1 ∧ 2147483648 < n) ∨ (1 ≤ n ∧ n ≤ 2147483648)) with h | ⟨h, h'⟩ | ⟨h, h'⟩
        · have hr := Lib.hid (herr.out 0 3 (by unfold addS; rw [if_neg k0, if_pos k1, if_pos (by omega)]))
          clear hnone herr hpa k0
          subst k1
          go_wp2_with fail
          go_ret3
          exact hr.out
        · have hr := Lib.hid (herr.out 0 3 (by unfold addS; rw [if_neg k0, if_pos k1, if_pos (by omega)]))
          clear hnone herr hpa k0
          subst k1
          go_wp2_with fail
          go_ret3
          exact hr.out
        · have hr := Lib.hid (hnone.out 1 k1 (.inr rfl) (by unfold addS; rw [if_neg k0, if_pos k1, if_neg (by omega)]))
          have q1 : ¬ n < 1 := by omega
          have q2 : ¬ 2147483648 < n := by omega
          clear hnone herr hpa k0
          subst k1
          go_wp2_with fail
          go_meet
          exact ⟨rfl, rfl, hr.out⟩
      · have hq1 : (kind == 1) = false := by simpa using k1
        by_cases k2 : kind = 2
        · subst k2
          have hpw := hpa.out W1
          unfold ParseIn at hpw
          cases hps : CM.parseS s with
          | error e =>
            obtain ⟨a, x⟩ := e
            rw [hps] at hpw
            have hx0 : (x != 0) = true := by have := CM.parse_er hps; simpa using this
            have hq : addS (l.length == 32) 2 n s = .error ((a : Int), x) := by unfold addS; rw [if_neg (by decide), if_neg (by decide), if_pos rfl, hps]
            have hr := Lib.hid (fun w5 (hb5 : Below W1.heap.size W1 w5) (v5 : Value) => (⟨AddIs.err hq ⟨_, (hR1.out.below hb5).box hH.out (by omega) hgv 5 v5⟩, (hB1.out.trans (hb5.mono (by omega))).setCell (by show N ≤ g; omega) _⟩ : AddIs N p l last 2 n s (.returned (.tuple #[.int .i64 0, .int .i64 (a : Int), .int .i64 x])) (w5.setCell ⟨g, 5, none⟩ v5) ∧ Below N W (w5.setCell ⟨g, 5, none⟩ v5)))
            have hcs := Lib.hid (fun w5 (hb5 : Below W1.heap.size W1 w5) => (⟨(hX1.out.below hb5).cell 5, (hX1.out.below hb5).free 5, (hX1.out.below hb5).lt⟩ : _ ∧ _ ∧ _))
            simp only [List.getElem?_cons_succ, List.getElem?_cons_zero] at hcs
            replace hpw := Lib.hid hpw
            clear hnone herr hpa k0 k1 hps hq
            go_wp2_with (go_at_call 24; (with_reducible refine hpw.out.mono ?_); rintro e w5 ⟨rfl, hb5⟩; obtain ⟨c5, f5, l5⟩ := hcs.out _ hb5)
            go_ret3
            exact hr.out _ hb5 _
          | ok phi =>
            rw [hps] at hpw
            have hq : addS (l.length == 32) 2 n s = (if l.length == 32 then .error (0, 7) else .ok (some phi)) := by unfold addS; rw [if_neg (by decide), if_neg (by decide), if_pos rfl, hps]
            have hr := Lib.hid (fun w5 (hb5 : Below W1.heap.size W1 w5) c (hC : CondN W1.heap.size w5 c s phi) => (by
              have hX5 := hX1.out.below hb5
              have hR5 := (((hR1.out.below hb5).box hH.out (by omega) hgv 5 (.pointer (some ⟨c, 0, none⟩))).box hH.out (by omega) hgv 2 (.int .i64 0)).box hH.out (by omega) hgv 3 (strV s)
              obtain ⟨lo, hlo, hCA⟩ := hC.condA
              have hO : Only (fun k => k = g) w5 (((w5.setCell ⟨g, 5, none⟩ (.pointer (some ⟨c, 0, none⟩))).setCell ⟨g, 2, none⟩ (.int .i64 0)).setCell ⟨g, 3, none⟩ (strV s)) :=
                (((Only.refl (fun k => k = g) w5).setCell (p := ⟨g, 5, none⟩) rfl _).setCell (p := ⟨g, 2, none⟩) rfl _).setCell (p := ⟨g, 3, none⟩) rfl _
              refine ⟨some phi, Lib.hid ⟨hq, some (c, lo, w5.heap.size, phi), ((hX5.set 5 _).set 2 _).set 3 _, ?_, ?_, rfl, hR5⟩, Lib.hid ?_⟩
              · intro cb lo' hi' phi' e
                simp only [addX, Option.some.injEq, Prod.mk.injEq] at e
                obtain ⟨rfl, rfl, rfl, rfl⟩ := e
                exact ⟨hCA.only hO (fun k hk => .inl (by rw [hk]; omega)), by omega, fun r hr => .inl (by have := hvl.out r hr; omega)⟩
              · intro cb lo' hi' phi' e
                simp only [Option.some.injEq, Prod.mk.injEq] at e
                obtain ⟨rfl, rfl, rfl, rfl⟩ := e
                omega
              · exact (((hB1.out.trans (hb5.mono (by omega))).setCell (by show N ≤ g; omega) _).setCell (by show N ≤ g; omega) _).setCell (by show N ≤ g; omega) _ :
              ∃ o, Hid (AddR N p g (.slice va l.length vc) l last 2 n s o (((w5.setCell ⟨g, 5, none⟩ (.pointer (some ⟨c, 0, none⟩))).setCell ⟨g, 2, none⟩ (.int .i64 0)).setCell ⟨g, 3, none⟩ (strV s))) ∧ Hid (Below N W (((w5.setCell ⟨g, 5, none⟩ (.pointer (some ⟨c, 0, none⟩))).setCell ⟨g, 2, none⟩ (.int .i64 0)).setCell ⟨g, 3, none⟩ (strV s)))))
            have hcs := Lib.hid (fun w5 (hb5 : Below W1.heap.size W1 w5) => (⟨(hX1.out.below hb5).cell 5, (hX1.out.below hb5).free 5, (hX1.out.below hb5).cell 2, (hX1.out.below hb5).free 2, (hX1.out.below hb5).cell 3, (hX1.out.below hb5).free 3, (hX1.out.below hb5).lt⟩ : _ ∧ _ ∧ _ ∧ _ ∧ _ ∧ _ ∧ _))
            simp only [List.getElem?_cons_succ, List.getElem?_cons_zero] at hcs
            replace hpw := Lib.hid hpw
            clear hnone herr hpa k0 k1 hps hq
            go_wp2_with (go_at_call 24; (with_reducible refine hpw.out.mono ?_); rintro e w5 ⟨c, rfl, hC, _, hb5⟩; obtain ⟨c5, f5, c2, f2, c3, f3, l5⟩ := hcs.out _ hb5)
            go_meet
            exact ⟨rfl, rfl, hr.out _ hb5 _ hC⟩
        · have hq2 : (kind == 2) = false := by simpa using k2
          have hr := Lib.hid (herr.out 0 1 (by unfold addS; rw [if_neg k0, if_neg k1, if_neg k2]))
          clear hnone herr hpa k0 k1 k2
          go_wp2_with fail
          go_ret3
          exact hr.out
  case rest =>
  obtain ⟨rfl, rfl, o, hA, hbw⟩ := hcut
  obtain ⟨w5, hw5⟩ : ∃ w1 : World, w1 = wc := ⟨_, rfl⟩
  subst hw5
  obtain ⟨hq, c, hX, hCx, hcl, hco, hR5⟩ := hA.out
  have hgl := hX.lt
  have hpl := hR5.blk.lt
  clear hA hpa hR1 hb1 hB1 hX1
  by_cases hf : l.length = 32
  · have hr := Lib.hid (⟨AddIs.err (by rw [hq, hf]; rfl) ⟨_, hR5⟩, hbw.out⟩ : AddIs N p l last kind n s (.returned (.tuple #[.int .i64 0, .int .i64 0, .int .i64 7])) w5 ∧ Below N W w5)
    have qf : ((l.length : Int) == 32) = true := by rw [hf]; rfl
    have c0 : w5.cell? ⟨p, 0, none⟩ = some (.slice va l.length vc) := hR5.blk.cell 0
    clear hX hCx hR5 hq hf
    go_wp2_with fail
    go_ret3
    exact hr.out
  · have qf : ((l.length : Int) == 32) = false := by simp; omega
    have c0 : w5.cell? ⟨p, 0, none⟩ = some (.slice va l.length vc) := hR5.blk.cell 0
    have c1 : w5.cell? ⟨p, 1, none⟩ = some (.int .i64 last) := hR5.blk.cell 1
    have f1 : w5.frozen? ⟨p, 1, none⟩ = false := hR5.blk.free 1
    have x0 : w5.cell? ⟨g, 0, none⟩ = some (.int .i64 0) := hX.cell 0
    have y0 : w5.frozen? ⟨g, 0, none⟩ = false := hX.free 0
    have hpg : p ≠ g := by omega
    have hgp2 : g ≠ p := by omega
    have hwl : IntKind.i64.wrap (last + 1) = last + 1 := IntWalk.i64_in _ (by omega)
    have hP6 : Blk ((w5.setCell ⟨p, 1, none⟩ (.int .i64 (last + 1))).setCell ⟨g, 0, none⟩ (.int .i64 (last + 1))) p 71 [.slice va l.length vc, .int .i64 (last + 1)] := (hR5.blk.set 1 _).set_other (p := ⟨g, 0, none⟩) hgp2 _
    have hX6 : Blk ((w5.setCell ⟨p, 1, none⟩ (.int .i64 (last + 1))).setCell ⟨g, 0, none⟩ (.int .i64 (last + 1))) g 75 (addX kind n s (last + 1) c).cells := (hX.set_other (p := ⟨p, 1, none⟩) hpg _).set 0 _
    have hO6 : Only (fun k => k = p ∨ k = g) w5 ((w5.setCell ⟨p, 1, none⟩ (.int .i64 (last + 1))).setCell ⟨g, 0, none⟩ (.int .i64 (last + 1))) := ((Only.refl (fun k => k = p ∨ k = g) w5).setCell (p := ⟨p, 1, none⟩) (.inl rfl) _).setCell (p := ⟨g, 0, none⟩) (.inr rfl) _
    have hB6 : Below N W ((w5.setCell ⟨p, 1, none⟩ (.int .i64 (last + 1))).setCell ⟨g, 0, none⟩ (.int .i64 (last + 1))) := (hbw.out.setCell (by show N ≤ p; exact hR5.np) _).setCell (by show N ≤ g; omega) _
    have hR6 : StopsR N ((w5.setCell ⟨p, 1, none⟩ (.int .i64 (last + 1))).setCell ⟨g, 0, none⟩ (.int .i64 (last + 1))) p (.slice va l.length vc) l (last + 1) := by
      refine ⟨hR5.np, hP6, ownsRow_only hR5.row hO6 (fun r hr => ?_), hR5.apart, fun y hy cb lo hi phi e => ?_⟩
      · rintro (rfl | rfl)
        · exact hR5.apart hr
        · exact hgv hr
      · obtain ⟨h1, h2, h3⟩ := hR5.conds y hy cb lo hi phi e
        refine ⟨h1.only hO6 (fun k hk => ?_), h2, h3⟩
        rcases hk with rfl | rfl
        · exact .inl h2
        · exact .inr (hH.out y hy cb lo hi phi e)
    have hC6 : CAt p (.slice va l.length vc) ((w5.setCell ⟨p, 1, none⟩ (.int .i64 (last + 1))).setCell ⟨g, 0, none⟩ (.int .i64 (last + 1))) (addX kind n s (last + 1) c) := by
      intro cb lo hi phi e
      obtain ⟨h1, h2, h3⟩ := hCx cb lo hi phi e
      refine ⟨h1.only hO6 (fun k hk => ?_), h2, h3⟩
      rcases hk with rfl | rfl
      · exact .inl h2
      · exact .inl (hcl cb lo hi phi e)
    have hnf := Lib.hid (show (l.length == 32) = false by simpa using hf)
    clear hf
    replace hB6 := Lib.hid hB6
    replace hR5 := Lib.hid hR5
    replace hX := Lib.hid hX
    replace hCx := Lib.hid hCx
    replace hq := Lib.hid hq
    replace hco := Lib.hid hco
    replace hP6 := Lib.hid hP6
    replace hX6 := Lib.hid hX6
    replace hR6 := Lib.hid hR6
    replace hC6 := Lib.hid hC6
    clear hO6 hcl
    go_upto_region 21 with fail
    generalize World.setCell (World.setCell w5 _ _) _ _ = w6 at *
    obtain ⟨x, hx⟩ : ∃ x, addX kind n s (last + 1) c = x := ⟨_, rfl⟩
    rw [hx] at hX6 hC6
    have hxid : x.id = last + 1 := by rw [← hx]; rfl
    have e0 : w6.cell? ⟨g, 0, none⟩ = some (.int .i64 x.id) := hX6.out.cell 0
    have e1 : w6.cell? ⟨g, 1, none⟩ = some (.int .i64 x.kind) := hX6.out.cell 1
    have e2 : w6.cell? ⟨g, 2, none⟩ = some (.int .i64 x.n) := hX6.out.cell 2
    have e3 : w6.cell? ⟨g, 3, none⟩ = some (strV x.cond) := hX6.out.cell 3
    have e4 : w6.cell? ⟨g, 4, none⟩ = some (.bool x.off) := hX6.out.cell 4
    have e5 : w6.cell? ⟨g, 5, none⟩ = some (.pointer x.ptr) := hX6.out.cell 5
    have p0 : w6.cell? ⟨p, 0, none⟩ = some (.slice va l.length vc) := hP6.out.cell 0
    have lg6 := hX6.out.lt
    have lp6 := hP6.out.lt
    have hs6 : N ≤ w6.heap.size := by have := hR6.out.np; omega
    have hbs : N ≤ (w6.drew.alloc (.cells x.cells.toArray 75)).heap.size := by simp; omega
    have hbd : Below w6.heap.size w6 w6.drew := bl_drew (Below.refl _ _)
    have hro := Lib.hid ((hR6.out.below hbd).row.alloc (.cells x.cells.toArray 75))
    have hsr := Lib.hid (fun j u (hj : x.cells[j]? = some u) => cells_new w6.drew w6.heap.size rfl 75 x.cells j u hj)
    have hone := Lib.hid x.cells_one
    have hadd := Lib.hid (fun v2 w7 hg ho hv => added (w1 := w6.drew) (w2 := w7) (v2 := v2) hR6.out.np hP6.out.drew hX6.out.drew hR6.out.apart hgv (fun y hy => (hR6.out.conds y hy).below hbd) (hC6.out.below hbd) hg ho hv)
    have hgr := Lib.hid (fun w7 (hg : (w6.drew.alloc (.cells x.cells.toArray 75)).grownBy w7 (Value.slice va l.length vc).ownBlock) => ((hB6.out.trans (hbd.mono hs6)).alloc (by simpa using hs6) (.cells x.cells.toArray 75)).grown hg hbs (fun j hj => (hro.out.lt j hj).1))
    have hend := Lib.hid (fun w8 (h8 : StopsAt N w8 p (l ++ [x]) (last + 1)) => AddIs.ok (by rw [hq.out, hnf.out]; rfl) (hx ▸ h8) hco.out)
    unfold Stp.cells at hsr hone hro hbs hgr
    have hxc : x.cells = [.int .i64 x.id, .int .i64 x.kind, .int .i64 x.n, strV x.cond, .bool x.off, .pointer x.ptr] := rfl
    rw [hxc] at hadd
    replace hxc := Lib.hid hxc
    replace hx := Lib.hid hx
    replace hxid := Lib.hid hxid
    replace hbs := Lib.hid hbs
    have hnp := hR6.out.np
    clear hX6 hP6 hR6 hC6 hR5 hX hCx hq hco hB6 hbd hwl c0 c1 f1 x0 y0 hgl hpl hbw hvl hH
    go_region_law (first
      | (rw [if_pos (by rfl)]; refine wp_append_at (.tmp 76) (.tmp 78) 69 (by rfl) N 75 i0 _ 6 56 Tryz.underlying69 hi hz0 hz1 hz2 (by rfl) (by decide) _ l.length (stpsC l) (by rfl) hro.out ⟨w6.heap.size, 0, none⟩ 1 1 _ (by rfl) hsr.out rfl hone.out (by unfold maxLen; omega) (by omega) hbs.out ?_; intro v2 w7 ho7 hg7 hv7; obtain ⟨m1, m2, m3⟩ := hadd.out v2 w7 hg7 ho7 hv7; have j0 : w7.cell? ⟨p, 0, none⟩ = some (.slice va l.length vc) := m1.cell 0; have j1 : w7.frozen? ⟨p, 0, none⟩ = false := m1.free 0; have j2 := m1.lt; have j3 : w7.cell? ⟨g, 0, none⟩ = some (.int .i64 x.id) := m2.cell 0; have j4 := m2.lt; have hb7 := hgr.out w7 hg7; obtain ⟨a7, c7, rfl⟩ := own_slice ho7; replace m1 := Lib.hid m1; replace m2 := Lib.hid m2; replace m3 := Lib.hid m3; replace ho7 := Lib.hid ho7; replace hg7 := Lib.hid hg7; replace hb7 := Lib.hid hb7; clear hv7))
    all_goals go_wp2_with fail
    all_goals go_ret3
    all_goals exact ⟨by rw [hxid.out]; exact hend.out _ ⟨_, m3.out⟩, hb7.out.setCell (by show N ≤ p; exact hnp) _⟩
end Go.Proofs.YtcjcflmnghhbaaaGreat
/-
  Stops.Add: what it writes; of chapter 28.
  Conditions: as each theorem states them.
-/
namespace Go.Proofs.YtcjcflmnghhbaaaGreat
open Go.RowKit
set_option linter.unusedVariables false
set_option linter.unusedSimpArgs false
/-- what the breakpoints' own calls write -/
def OwnK (p g : Nat) (v : Value) (k : Nat) : Prop := k = p ∨ v.ownBlock = some k ∨ g ≤ k
theorem Only.grownO {K : Nat → Prop} {w0 w w2 : World} {row : Option Nat} (h : Only K w0 w) (hg : w.grownBy w2 row) (hr : ∀ b, row = some b → K b) : Only K w0 w2 :=
  ⟨hg.os.trans h.os, hg.tape.trans h.tape, hg.output.trans h.output, Nat.le_trans h.size hg.size, fun i hi hn => (hg.block i (Nat.lt_of_lt_of_le hi h.size) (fun e => hn (hr i e.symm))).trans (h.block i hi hn)⟩
/-- what Add answers, and what it leaves -/
def AddO (N p g : Nat) (v : Value) (l : List Stp) (last kind n : Int) (s : List UInt8) (e : Ending) (w' : World) : Prop :=
  match addS (l.length == 32) kind n s with
  | .error (a, x) => e = .returned (.tuple #[.int .i64 0, .int .i64 a, .int .i64 x]) ∧ StopsR N w' p v l last
  | .ok o => e = .returned (.tuple #[.int .i64 (last + 1), .int .i64 0, .int .i64 0]) ∧ ∃ c v', StopsR N w' p v' (l ++ [⟨last + 1, kind, newN kind n, newC kind s, false, c⟩]) (last + 1) ∧ (∀ r, v'.ownBlock = some r → v.ownBlock = some r ∨ g ≤ r) ∧ (∀ cb lo hi phi, c = some (cb, lo, hi, phi) → g ≤ lo) ∧ c.map (fun t => t.2.2.2) = o
theorem AddO.err {N p g : Nat} {v : Value} {l : List Stp} {last kind n a x : Int} {s : List UInt8} {w' : World} (h : addS (l.length == 32) kind n s = .error (a, x)) (hS : StopsR N w' p v l last) : AddO N p g v l last kind n s (.returned (.tuple #[.int .i64 0, .int .i64 a, .int .i64 x])) w' := by
  unfold AddO; rw [h]; exact ⟨rfl, hS⟩
theorem AddO.ok {N p g : Nat} {v v' : Value} {l : List Stp} {last kind n : Int} {s : List UInt8} {w' : World} {o : Option CM.M} {c : Option (Nat × Nat × Nat × CM.M)} (h : addS (l.length == 32) kind n s = .ok o) (hS : StopsR N w' p v' (l ++ [addX kind n s (last + 1) c]) (last + 1)) (hv : ∀ r, v'.ownBlock = some r → v.ownBlock = some r ∨ g ≤ r) (hcl : ∀ cb lo hi phi, c = some (cb, lo, hi, phi) → g ≤ lo) (hc : c.map (fun t => t.2.2.2) = o) : AddO N p g v l last kind n s (.returned (.tuple #[.int .i64 (last + 1), .int .i64 0, .int .i64 0])) w' := by
  unfold AddO; rw [h]; exact ⟨rfl, c, v', hS, hv, hcl, hc⟩
set_option maxHeartbeats 4000000 in
set_option maxRecDepth 100000 in
theorem add_own {N p : Nat} {v : Value} {l : List Stp} {last : Int} (kind n : Int) (s : List UInt8) (W : World) (hR : StopsR N W p v l last) (hN : N ≤ W.heap.size) (hl : l.length ≤ 32) (h0 : 0 ≤ last) (h1 : last ≤ 1000000000) :
    Calls Tryz.prog 11 #[.pointer (some ⟨p, 0, none⟩), .int .i64 kind, .int .i64 n, strV s] W fun e w' => AddO N p W.heap.size v l last kind n s e w' ∧ Only (OwnK p W.heap.size v) W w' := by
  obtain ⟨i0, hi, hz0, hz1, hz2⟩ := info_parts infoStp
  have hgp : p < W.heap.size := hR.blk.lt
  have hgv : v.ownBlock ≠ some W.heap.size := fun e => by have := (hR.row.lt _ e).2; omega
  have hpa := Lib.hid (fun w' => cparse_in s w')
  obtain ⟨va, vc, rfl⟩ := own_slice hR.row
  have hH := Lib.hid (fun y (hy : y ∈ l) cb lo hi phi (e : y.c = some (cb, lo, hi, phi)) => (hR.conds y hy cb lo hi phi e).1.hi)
  have hvl := Lib.hid (fun r (hr : (Value.slice va l.length vc).ownBlock = some r) => (hR.row.lt r hr).2)
  replace hR := Lib.hid hR
  obtain ⟨g0, hg0⟩ : ∃ g0, W.heap.size = g0 := ⟨_, rfl⟩
  rw [hg0]
  go_enter Tryz.func11, Tryz.ntmps11
  go_upto_block 0 with fail
  have hX1 : Blk (W.alloc (.cells #[.int .i64 0, .int .i64 kind, .int .i64 n, .string ⟨#[]⟩, .bool false, .pointer none] 75)) W.heap.size 75 [.int .i64 0, .int .i64 kind, .int .i64 n, .string ⟨#[]⟩, .bool false, .pointer none] := Blk.new W 75 [.int .i64 0, .int .i64 kind, .int .i64 n, .string ⟨#[]⟩, .bool false, .pointer none]
  generalize hW1 : World.alloc W _ = W1 at *
  have hb1 : Below W.heap.size W W1 := by rw [← hW1]; exact bl_alloc (Below.refl _ _) _
  have hR1 := hR.out.below hb1
  have hB1 : Only (OwnK p W.heap.size (.slice va l.length vc)) W W1 := Only.of_below hb1
  have hN' := hN
  have hg1 : W.heap.size < W1.heap.size := hX1.lt
  generalize hg : W.heap.size = g at *
  subst hg0
  replace hR1 := Lib.hid hR1
  replace hb1 := Lib.hid hb1
  replace hB1 := Lib.hid hB1
  replace hX1 := Lib.hid hX1
  clear hW1 hR
  go_cut [9, 10] from 18 to 52 (fun s9 s10 wx => s9 = .int .i64 0 ∧ s10 = .int .i64 0 ∧ ∃ o, Hid (AddR N p g (.slice va l.length vc) l last kind n s o wx) ∧ Hid (Only (OwnK p g (.slice va l.length vc)) W wx))
  case first =>
    have hnone := Lib.hid (fun (kd : Int) (hk : kind = kd) (hkd : kd = 0 ∨ kd = 1) (hq : addS (l.length == 32) kind n s = (if l.length == 32 then .error (0, 7) else .ok none)) => (⟨none, Lib.hid ⟨hq, none, (by have := hX1.out; rcases hkd with rfl | rfl <;> (subst hk; exact this)), CAt.none rfl, (fun _ _ _ _ e => by cases e), rfl, hR1.out⟩, hB1⟩ : ∃ o, Hid (AddR N p g (.slice va l.length vc) l last kind n s o W1) ∧ Hid (Only (OwnK p g (.slice va l.length vc)) W W1)))
    have herr := Lib.hid (fun (a x : Int) (hq : addS (l.length == 32) kind n s = .error (a, x)) => (⟨AddO.err hq hR1.out, hB1.out⟩ : AddO N p g (.slice va l.length vc) l last kind n s (.returned (.tuple #[.int .i64 0, .int .i64 a, .int .i64 x])) W1 ∧ Only (OwnK p g (.slice va l.length vc)) W W1))
    by_cases k0 : kind = 0
    · rcases (by omega : n < 0 ∨ (¬ n < 0 ∧ 200 < n) ∨ (0 ≤ n ∧ n ≤ 200)) with h | ⟨h, h'⟩ | ⟨h, h'⟩
      · have hr := Lib.hid (herr.out 0 3 (by unfold addS; rw [if_pos k0, if_pos (by omega)]))
        clear hnone herr hpa
        subst k0
        go_wp2_with fail
        go_ret3
        exact hr.out
      · have hr := Lib.hid (herr.out 0 3 (by unfold addS; rw [if_pos k0, if_pos (by omega)]))
        clear hnone herr hpa
        subst k0
        go_wp2_with fail
        go_ret3
        exact hr.out
      · have hr := Lib.hid (hnone.out 0 k0 (.inl rfl) (by unfold addS; rw [if_pos k0, if_neg (by omega)]))
        have q1 : ¬ n < 0 := by omega
        have q2 : ¬ 200 < n := by omega
        clear hnone herr hpa
        subst k0
        go_wp2_with fail
        go_meet
        exact ⟨rfl, rfl, hr.out⟩
    · have hq0 : (kind == 0) = false := by simpa using k0
      by_cases k1 : kind = 1
      · rcases (by omega : n < 1 ∨ (¬ n < 1 ∧ 2147483648 < n) ∨ (1 ≤ n ∧ n ≤ 2147483648)) with h | ⟨h, h'⟩ | ⟨h, h'⟩
        · have hr := Lib.hid (herr.out 0 3 (by unfold addS; rw [if_neg k0, if_pos k1, if_pos (by omega)]))
          clear hnone herr hpa k0
          subst k1
          go_wp2_with fail
          go_ret3
          exact hr.out
        · have hr := Lib.hid (herr.out 0 3 (by unfold addS; rw [if_neg k0, if_pos k1, if_pos (by omega)]))
          clear hnone herr hpa k0
          subst k1
          go_wp2_with fail
          go_ret3
          exact hr.out
        · have hr := Lib.hid (hnone.out 1 k1 (.inr rfl) (by unfold addS; rw [if_neg k0, if_pos k1, if_neg (by omega)]))
          have q1 : ¬ n < 1 := by omega
          have q2 : ¬ 2147483648 < n := by omega
          clear hnone herr hpa k0
          subst k1
          go_wp2_with fail
          go_meet
          exact ⟨rfl, rfl, hr.out⟩
      · have hq1 : (kind == 1) = false := by simpa using k1
        by_cases k2 : kind = 2
        · subst k2
          have hpw := hpa.out W1
          unfold ParseIn at hpw
          cases hps : CM.parseS s with
          | error e =>
            obtain ⟨a, x⟩ := e
            rw [hps] at hpw
            have hx0 : (x != 0) = true := by have := CM.parse_er hps; simpa using this
            have hq : addS (l.length == 32) 2 n s = .error ((a : Int), x) := by unfold addS; rw [if_neg (by decide), if_neg (by decide), if_pos rfl, hps]
            have hr := Lib.hid (fun w5 (hb5 : Below W1.heap.size W1 w5) (v5 : Value) => (⟨AddO.err hq ((hR1.out.below hb5).box hH.out (by omega) hgv 5 v5), (hB1.out.trans (Only.of_below hb5)).setCell (p := ⟨g, 5, none⟩) (.inr (.inr (Nat.le_refl _))) _⟩ : AddO N p g (.slice va l.length vc) l last 2 n s (.returned (.tuple #[.int .i64 0, .int .i64 (a : Int), .int .i64 x])) (w5.setCell ⟨g, 5, none⟩ v5) ∧ Only (OwnK p g (.slice va l.length vc)) W (w5.setCell ⟨g, 5, none⟩ v5)))
            have hcs := Lib.hid (fun w5 (hb5 : Below W1.heap.size W1 w5) => (⟨(hX1.out.below hb5).cell 5, (hX1.out.below hb5).free 5, (hX1.out.below hb5).lt⟩ : _ ∧ _ ∧ _))
            simp only [List.getElem?_cons_succ, List.getElem?_cons_zero] at hcs
            replace hpw := Lib.hid hpw
            clear hnone herr hpa k0 k1 hps hq
            go_wp2_with (go_at_call 24; (with_reducible refine hpw.out.mono ?_); rintro e w5 ⟨rfl, hb5⟩; obtain ⟨c5, f5, l5⟩ := hcs.out _ hb5)
            go_ret3
            exact hr.out _ hb5 _
          | ok phi =>
            rw [hps] at hpw
            have hq : addS (l.length == 32) 2 n s = (if l.length == 32 then .error (0, 7) else .ok (some phi)) := by unfold addS; rw [if_neg (by decide), if_neg (by decide), if_pos rfl, hps]
            have hr := Lib.hid (fun w5 (hb5 : Below W1.heap.size W1 w5) c (hC : CondN W1.heap.size w5 c s phi) => (by
              have hX5 := hX1.out.below hb5
              have hR5 := (((hR1.out.below hb5).box hH.out (by omega) hgv 5 (.pointer (some ⟨c, 0, none⟩))).box hH.out (by omega) hgv 2 (.int .i64 0)).box hH.out (by omega) hgv 3 (strV s)
              obtain ⟨lo, hlo, hCA⟩ := hC.condA
              have hO : Only (fun k => k = g) w5 (((w5.setCell ⟨g, 5, none⟩ (.pointer (some ⟨c, 0, none⟩))).setCell ⟨g, 2, none⟩ (.int .i64 0)).setCell ⟨g, 3, none⟩ (strV s)) :=
                (((Only.refl (fun k => k = g) w5).setCell (p := ⟨g, 5, none⟩) rfl _).setCell (p := ⟨g, 2, none⟩) rfl _).setCell (p := ⟨g, 3, none⟩) rfl _
              refine ⟨some phi, Lib.hid ⟨hq, some (c, lo, w5.heap.size, phi), ((hX5.set 5 _).set 2 _).set 3 _, ?_, ?_, rfl, hR5⟩, Lib.hid ?_⟩
              · intro cb lo' hi' phi' e
                simp only [addX, Option.some.injEq, Prod.mk.injEq] at e
                obtain ⟨rfl, rfl, rfl, rfl⟩ := e
                exact ⟨hCA.only hO (fun k hk => .inl (by rw [hk]; omega)), by omega, fun r hr => .inl (by have := hvl.out r hr; omega)⟩
              · intro cb lo' hi' phi' e
                simp only [Option.some.injEq, Prod.mk.injEq] at e
                obtain ⟨rfl, rfl, rfl, rfl⟩ := e
                omega
              · exact (((hB1.out.trans (Only.of_below hb5)).setCell (p := ⟨g, 5, none⟩) (.inr (.inr (Nat.le_refl _))) _).setCell (p := ⟨g, 2, none⟩) (.inr (.inr (Nat.le_refl _))) _).setCell (p := ⟨g, 3, none⟩) (.inr (.inr (Nat.le_refl _))) _ :
              ∃ o, Hid (AddR N p g (.slice va l.length vc) l last 2 n s o (((w5.setCell ⟨g, 5, none⟩ (.pointer (some ⟨c, 0, none⟩))).setCell ⟨g, 2, none⟩ (.int .i64 0)).setCell ⟨g, 3, none⟩ (strV s))) ∧ Hid (Only (OwnK p g (.slice va l.length vc)) W (((w5.setCell ⟨g, 5, none⟩ (.pointer (some ⟨c, 0, none⟩))).setCell ⟨g, 2, none⟩ (.int .i64 0)).setCell ⟨g, 3, none⟩ (strV s)))))
            have hcs := Lib.hid (fun w5 (hb5 : Below W1.heap.size W1 w5) => (⟨(hX1.out.below hb5).cell 5, (hX1.out.below hb5).free 5, (hX1.out.below hb5).cell 2, (hX1.out.below hb5).free 2, (hX1.out.below hb5).cell 3, (hX1.out.below hb5).free 3, (hX1.out.below hb5).lt⟩ : _ ∧ _ ∧ _ ∧ _ ∧ _ ∧ _ ∧ _))
            simp only [List.getElem?_cons_succ, List.getElem?_cons_zero] at hcs
            replace hpw := Lib.hid hpw
            clear hnone herr hpa k0 k1 hps hq
            go_wp2_with (go_at_call 24; (with_reducible refine hpw.out.mono ?_); rintro e w5 ⟨c, rfl, hC, _, hb5⟩; obtain ⟨c5, f5, c2, f2, c3, f3, l5⟩ := hcs.out _ hb5)
            go_meet
            exact ⟨rfl, rfl, hr.out _ hb5 _ hC⟩
        · have hq2 : (kind == 2) = false := by simpa using k2
          have hr := Lib.hid (herr.out 0 1 (by unfold addS; rw [if_neg k0, if_neg k1, if_neg k2]))
          clear hnone herr hpa k0 k1 k2
          go_wp2_with fail
          go_ret3
          exact hr.out
  case rest =>
  obtain ⟨rfl, rfl, o, hA, hbw⟩ := hcut
  obtain ⟨w5, hw5⟩ : ∃ w1 : World, w1 = wc := ⟨_, rfl⟩
  subst hw5
  obtain ⟨hq, c, hX, hCx, hcl, hco, hR5⟩ := hA.out
  have hgl := hX.lt
  have hpl := hR5.blk.lt
  clear hA hpa hR1 hb1 hB1 hX1
  by_cases hf : l.length = 32
  · have hr := Lib.hid (⟨AddO.err (by rw [hq, hf]; rfl) hR5, hbw.out⟩ : AddO N p g (.slice va l.length vc) l last kind n s (.returned (.tuple #[.int .i64 0, .int .i64 0, .int .i64 7])) w5 ∧ Only (OwnK p g (.slice va l.length vc)) W w5)
    have qf : ((l.length : Int) == 32) = true := by rw [hf]; rfl
    have c0 : w5.cell? ⟨p, 0, none⟩ = some (.slice va l.length vc) := hR5.blk.cell 0
    clear hX hCx hR5 hq hf
    go_wp2_with fail
    go_ret3
    exact hr.out
  · have qf : ((l.length : Int) == 32) = false := by simp; omega
    have c0 : w5.cell? ⟨p, 0, none⟩ = some (.slice va l.length vc) := hR5.blk.cell 0
    have c1 : w5.cell? ⟨p, 1, none⟩ = some (.int .i64 last) := hR5.blk.cell 1
    have f1 : w5.frozen? ⟨p, 1, none⟩ = false := hR5.blk.free 1
    have x0 : w5.cell? ⟨g, 0, none⟩ = some (.int .i64 0) := hX.cell 0
    have y0 : w5.frozen? ⟨g, 0, none⟩ = false := hX.free 0
    have hpg : p ≠ g := by omega
    have hgp2 : g ≠ p := by omega
    have hwl : IntKind.i64.wrap (last + 1) = last + 1 := IntWalk.i64_in _ (by omega)
    have hP6 : Blk ((w5.setCell ⟨p, 1, none⟩ (.int .i64 (last + 1))).setCell ⟨g, 0, none⟩ (.int .i64 (last + 1))) p 71 [.slice va l.length vc, .int .i64 (last + 1)] := (hR5.blk.set 1 _).set_other (p := ⟨g, 0, none⟩) hgp2 _
    have hX6 : Blk ((w5.setCell ⟨p, 1, none⟩ (.int .i64 (last + 1))).setCell ⟨g, 0, none⟩ (.int .i64 (last + 1))) g 75 (addX kind n s (last + 1) c).cells := (hX.set_other (p := ⟨p, 1, none⟩) hpg _).set 0 _
    have hO6 : Only (fun k => k = p ∨ k = g) w5 ((w5.setCell ⟨p, 1, none⟩ (.int .i64 (last + 1))).setCell ⟨g, 0, none⟩ (.int .i64 (last + 1))) := ((Only.refl (fun k => k = p ∨ k = g) w5).setCell (p := ⟨p, 1, none⟩) (.inl rfl) _).setCell (p := ⟨g, 0, none⟩) (.inr rfl) _
    have hB6 : Only (OwnK p g (.slice va l.length vc)) W ((w5.setCell ⟨p, 1, none⟩ (.int .i64 (last + 1))).setCell ⟨g, 0, none⟩ (.int .i64 (last + 1))) := (hbw.out.setCell (p := ⟨p, 1, none⟩) (.inl rfl) _).setCell (p := ⟨g, 0, none⟩) (.inr (.inr (Nat.le_refl _))) _
    have hR6 : StopsR N ((w5.setCell ⟨p, 1, none⟩ (.int .i64 (last + 1))).setCell ⟨g, 0, none⟩ (.int .i64 (last + 1))) p (.slice va l.length vc) l (last + 1) := by
      refine ⟨hR5.np, hP6, ownsRow_only hR5.row hO6 (fun r hr => ?_), hR5.apart, fun y hy cb lo hi phi e => ?_⟩
      · rintro (rfl | rfl)
        · exact hR5.apart hr
        · exact hgv hr
      · obtain ⟨h1, h2, h3⟩ := hR5.conds y hy cb lo hi phi e
        refine ⟨h1.only hO6 (fun k hk => ?_), h2, h3⟩
        rcases hk with rfl | rfl
        · exact .inl h2
        · exact .inr (hH.out y hy cb lo hi phi e)
    have hC6 : CAt p (.slice va l.length vc) ((w5.setCell ⟨p, 1, none⟩ (.int .i64 (last + 1))).setCell ⟨g, 0, none⟩ (.int .i64 (last + 1))) (addX kind n s (last + 1) c) := by
      intro cb lo hi phi e
      obtain ⟨h1, h2, h3⟩ := hCx cb lo hi phi e
      refine ⟨h1.only hO6 (fun k hk => ?_), h2, h3⟩
      rcases hk with rfl | rfl
      · exact .inl h2
      · exact .inl (hcl cb lo hi phi e)
    have hnf := Lib.hid (show (l.length == 32) = false by simpa using hf)
    clear hf
    replace hB6 := Lib.hid hB6
    replace hR5 := Lib.hid hR5
    replace hX := Lib.hid hX
    replace hCx := Lib.hid hCx
    replace hq := Lib.hid hq
    replace hco := Lib.hid hco
    replace hP6 := Lib.hid hP6
    replace hX6 := Lib.hid hX6
    replace hR6 := Lib.hid hR6
    replace hC6 := Lib.hid hC6
    replace hcl := Lib.hid hcl
    clear hO6
    go_upto_region 21 with fail
    generalize World.setCell (World.setCell w5 _ _) _ _ = w6 at *
    obtain ⟨x, hx⟩ : ∃ x, addX kind n s (last + 1) c = x := ⟨_, rfl⟩
    rw [hx] at hX6 hC6
    have hxid : x.id = last + 1 := by rw [← hx]; rfl
    have e0 : w6.cell? ⟨g, 0, none⟩ = some (.int .i64 x.id) := hX6.out.cell 0
    have e1 : w6.cell? ⟨g, 1, none⟩ = some (.int .i64 x.kind) := hX6.out.cell 1
    have e2 : w6.cell? ⟨g, 2, none⟩ = some (.int .i64 x.n) := hX6.out.cell 2
    have e3 : w6.cell? ⟨g, 3, none⟩ = some (strV x.cond) := hX6.out.cell 3
    have e4 : w6.cell? ⟨g, 4, none⟩ = some (.bool x.off) := hX6.out.cell 4
    have e5 : w6.cell? ⟨g, 5, none⟩ = some (.pointer x.ptr) := hX6.out.cell 5
    have p0 : w6.cell? ⟨p, 0, none⟩ = some (.slice va l.length vc) := hP6.out.cell 0
    have lg6 := hX6.out.lt
    have lp6 := hP6.out.lt
    have hs6 : N ≤ w6.heap.size := by have := hR6.out.np; omega
    have hbs : N ≤ (w6.drew.alloc (.cells x.cells.toArray 75)).heap.size := by simp; omega
    have hbd : Below w6.heap.size w6 w6.drew := bl_drew (Below.refl _ _)
    have hro := Lib.hid ((hR6.out.below hbd).row.alloc (.cells x.cells.toArray 75))
    have hsr := Lib.hid (fun j u (hj : x.cells[j]? = some u) => cells_new w6.drew w6.heap.size rfl 75 x.cells j u hj)
    have hone := Lib.hid x.cells_one
    have hadd := Lib.hid (fun v2 w7 hg ho hv => added (w1 := w6.drew) (w2 := w7) (v2 := v2) hR6.out.np hP6.out.drew hX6.out.drew hR6.out.apart hgv (fun y hy => (hR6.out.conds y hy).below hbd) (hC6.out.below hbd) hg ho hv)
    have hgr := Lib.hid (fun w7 (hg : (w6.drew.alloc (.cells x.cells.toArray 75)).grownBy w7 (Value.slice va l.length vc).ownBlock) => ((hB6.out.trans (Only.of_below hbd)).alloc (.cells x.cells.toArray 75)).grownO hg (fun j hj => .inr (.inl hj)))
    have hend := Lib.hid (fun w8 v8 (h8 : StopsR N w8 p v8 (l ++ [x]) (last + 1)) hv8 => AddO.ok (g := g) (v := .slice va l.length vc) (by rw [hq.out, hnf.out]; rfl) (hx ▸ h8) hv8 hcl.out hco.out)
    unfold Stp.cells at hsr hone hro hbs hgr
    have hxc : x.cells = [.int .i64 x.id, .int .i64 x.kind, .int .i64 x.n, strV x.cond, .bool x.off, .pointer x.ptr] := rfl
    rw [hxc] at hadd
    replace hxc := Lib.hid hxc
    replace hx := Lib.hid hx
    replace hxid := Lib.hid hxid
    replace hbs := Lib.hid hbs
    have hnp := hR6.out.np
    clear hX6 hP6 hR6 hC6 hR5 hX hCx hq hco hB6 hbd hwl c0 c1 f1 x0 y0 hgl hpl hbw hvl hH
    go_region_law (first
      | (rw [if_pos (by rfl)]; refine wp_append_at (.tmp 76) (.tmp 78) 69 (by rfl) N 75 i0 _ 6 56 Tryz.underlying69 hi hz0 hz1 hz2 (by rfl) (by decide) _ l.length (stpsC l) (by rfl) hro.out ⟨w6.heap.size, 0, none⟩ 1 1 _ (by rfl) hsr.out rfl hone.out (by unfold maxLen; omega) (by omega) hbs.out ?_; intro v2 w7 ho7 hg7 hv7; obtain ⟨m1, m2, m3⟩ := hadd.out v2 w7 hg7 ho7 hv7; have j0 : w7.cell? ⟨p, 0, none⟩ = some (.slice va l.length vc) := m1.cell 0; have j1 : w7.frozen? ⟨p, 0, none⟩ = false := m1.free 0; have j2 := m1.lt; have j3 : w7.cell? ⟨g, 0, none⟩ = some (.int .i64 x.id) := m2.cell 0; have j4 := m2.lt; have hb7 := hgr.out w7 hg7; have hv8 : ∀ r, v2.ownBlock = some r → (Value.slice va l.length vc).ownBlock = some r ∨ g ≤ r := (fun r hr => by rcases hv7 with e | e; exact .inl (e ▸ hr); rw [e] at hr; simp at hr; exact .inr (by omega)); obtain ⟨a7, c7, rfl⟩ := own_slice ho7; replace hv8 := Lib.hid hv8; replace m1 := Lib.hid m1; replace m2 := Lib.hid m2; replace m3 := Lib.hid m3; replace ho7 := Lib.hid ho7; replace hg7 := Lib.hid hg7; replace hb7 := Lib.hid hb7; clear hv7))
    all_goals go_wp2_with fail
    all_goals go_ret3
    all_goals exact ⟨by rw [hxid.out]; exact hend.out _ _ m3.out hv8.out, hb7.out.setCell (p := ⟨p, 0, none⟩) (.inl rfl) _⟩
end Go.Proofs.YtcjcflmnghhbaaaGreat
