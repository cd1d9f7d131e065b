/-
  The reference's parser: what its functions leave; of chapter 27.
  Conditions: as each theorem states them.
-/
import Derived.Test.YtcjcflmnghhbaaaGreatRcT
import Derived.Test.YtcjcflmnghhbaaaGreatRhh
import Derived.Test.YtcjcflmnghhbaaaGreatCondYz
import Derived.Test.YtcjcflmnghhbaaaGreatCondE
import Derived.Test.YtcjcflmnghhbaaaGreatCondJa
import Derived.Deep.LoopGhost
import Derived.Maps.AppendAt
namespace Go.Proofs.YtcjcflmnghhbaaaGreat
open Go.RowKit
set_option linter.unusedVariables false
set_option linter.unusedSimpArgs false
open CM (Pc Ps)
/-- signs and brackets are what they are -/
def Sg (x : Pc) : Prop := (x.kind = 4 → x.s ∈ CM.sgs) ∧ (x.kind = 5 → x.s = [40] ∨ x.s = [41])
theorem signS_mem (t : List UInt8) (h : CM.signS t ≠ []) : CM.signS t ∈ CM.sgs := by
  unfold CM.signS at h ⊢
  split <;> simp_all [CM.sgs]
theorem piece_sg {s : List UInt8} {b : Nat} {t : List UInt8} {x : Pc} {c : Nat} (h : CM.pieceS s b t = .ok (x, c)) : Sg x := by
  unfold CM.pieceS at h
  cases t with
  | nil => simp only [Except.ok.injEq, Prod.mk.injEq] at h; obtain ⟨rfl, _⟩ := h; exact ⟨(fun h => by cases h), (fun h => by cases h)⟩
  | cons d r =>
    simp only at h
    split at h
    · split at h
      · simp only [Except.ok.injEq, Prod.mk.injEq] at h; obtain ⟨rfl, _⟩ := h; exact ⟨(fun h => by cases h), (fun h => by cases h)⟩
      · cases h
    · split at h
      · split at h
        · simp only [Except.ok.injEq, Prod.mk.injEq] at h; obtain ⟨rfl, _⟩ := h; exact ⟨(fun h => by cases h), (fun h => by cases h)⟩
        · cases h
      · split at h
        · split at h
          · simp only [Except.ok.injEq, Prod.mk.injEq] at h; obtain ⟨rfl, _⟩ := h; exact ⟨(fun h => by cases h), (fun h => by cases h)⟩
          · cases h
        · split at h
          · rename_i hb
            simp only [Except.ok.injEq, Prod.mk.injEq] at h; obtain ⟨rfl, _⟩ := h
            exact ⟨(fun h => by cases h), fun _ => by rcases hb with rfl | rfl <;> simp⟩
          · split at h
            · cases h
            · rename_i hs
              simp only [Except.ok.injEq, Prod.mk.injEq] at h; obtain ⟨rfl, _⟩ := h
              exact ⟨(fun _ => signS_mem _ hs), (fun h => by cases h)⟩
theorem next_sg {s : List UInt8} {p q : Ps} (h : p.next s = .ok q) : Sg q.pc := by
  unfold CM.Ps.next at h
  split at h
  · cases h
  · rename_i x b hn
    simp only [Except.ok.injEq] at h
    subst h
    exact piece_sg hn
theorem rIs_open {x : Pc} (h : Sg x) : rIs x 4 [40] = x.is 5 [40] := by
  unfold rIs CM.Pc.is rk rs
  by_cases h5 : x.kind = 5
  · rw [h5]; simp
  · by_cases h4 : x.kind = 4
    · have := h.1 h4
      have hn : x.s ≠ [40] := by intro e; rw [e] at this; simp [CM.sgs] at this
      rw [h4]
      simp [hn]
    · have e5 : (x.kind == 5) = false := by simpa using h5
      rw [if_neg h5, e5]
      simp [h4]
theorem rIs_shut {x : Pc} (h : Sg x) : rIs x 4 [41] = x.is 5 [41] := by
  unfold rIs CM.Pc.is rk rs
  by_cases h5 : x.kind = 5
  · rw [h5]; simp
  · by_cases h4 : x.kind = 4
    · have := h.1 h4
      have hn : x.s ≠ [41] := by intro e; rw [e] at this; simp [CM.sgs] at this
      rw [h4]
      simp [hn]
    · have e5 : (x.kind == 5) = false := by simpa using h5
      rw [if_neg h5, e5]
      simp [h4]
/-- a node's cells, whatever they say -/
def SomeN (v : List Value) : Prop := ∃ what la ln lc sign n ba bn bc, v = nodeC what la ln lc sign n ba bn bc
/-- what a function of the parser leaves -/
def ROut (s : List UInt8) (g : Nat) (d : Nat) (R : Except CM.Er (CM.M × Ps)) (w : World) (e : Ending) (w' : World) : Prop := Oly g w w' ∧ ∃ v : List Value, e = .returned (.agg v.toArray) ∧ SomeN v ∧ match R with
  | .ok (phi, q) => NodeIs w.heap.size w'.heap.size v phi w' ∧ Good w.heap.size w' g s q ∧ Sg q.pc
  | .error (a, x) => Bad w' g s d a x
theorem ROut.ok {s : List UInt8} {g d : Nat} {R : Except CM.Er (CM.M × Ps)} {w w' : World} {v : List Value} {phi : CM.M} {q : Ps} (h : R = .ok (phi, q)) (ho : Oly g w w') (hN : NodeIs w.heap.size w'.heap.size v phi w') (hG : Good w.heap.size w' g s q) (hs : Sg q.pc) : ROut s g d R w (.returned (.agg v.toArray)) w' := by
  subst h; exact ⟨ho, v, rfl, hN.2.1, hN, hG, hs⟩
theorem ROut.err {s : List UInt8} {g d : Nat} {R : Except CM.Er (CM.M × Ps)} {w w' : World} {v : List Value} {a : Nat} {x : Int} (h : R = .error (a, x)) (ho : Oly g w w') (hv : SomeN v) (hB : Bad w' g s d a x) : ROut s g d R w (.returned (.agg v.toArray)) w' := by
  subst h; exact ⟨ho, v, rfl, hv, hB⟩
/-- what it leaves where something is wrong already -/
def RBad (s : List UInt8) (g : Nat) (d a : Nat) (x : Int) (w : World) (e : Ending) (w' : World) : Prop := Oly g w w' ∧ Bad w' g s d a x ∧ ∃ v : List Value, e = .returned (.agg v.toArray) ∧ SomeN v
theorem only_fresh {K : Nat → Prop} {w w' : World} (h : Only K w w') {b : Nat} (hb : w.heap.size ≤ b) (j : Nat) (v : Value) : Only K w (w'.setCell ⟨b, j, none⟩ v) :=
  ⟨h.os, h.tape, h.output, by have := h.size; simpa [World.setCell] using this, fun k hk hn => (Below.heap_setCell _ _ _ _ (by show k ≠ b; omega)).trans (h.block k hk hn)⟩
theorem Bad.only {K : Nat → Prop} {w w' : World} {g : Nat} {s : List UInt8} {d a : Nat} {x : Int} (h : Bad w g s d a x) (ho : Only K w w') (hg : ¬ K g) : Bad w' g s d a x := by
  obtain ⟨r, h1, h2⟩ := h
  exact ⟨r, Blk.only h1 ho hg, h2⟩
theorem Bad.dp {w : World} {g : Nat} {s : List UInt8} {d a : Nat} {x : Int} (h : Bad w g s d a x) (d' : Nat) : Bad (w.setCell ⟨g, 7, none⟩ (.int .i64 (d' : Int))) g s d' a x := by
  obtain ⟨r, h1, h2, h3⟩ := h
  exact ⟨{ r with deep := (d' : Int) }, Blk.set h1 7 _, rfl, h3⟩
theorem Good.dp {n : Nat} {w : World} {g : Nat} {s : List UInt8} {p : Ps} (h : Good n w g s p) (hgn : g < n) (d' : Nat) : Good n (w.setCell ⟨g, 7, none⟩ (.int .i64 (d' : Int))) g s ⟨p.pc, p.at_, d'⟩ := by
  obtain ⟨pa, pm, pc, h1, h2⟩ := h
  exact ⟨pa, pm, pc, Blk.set h1 7 _, fun hk => ⟨(h2 hk).1, (h2 hk).2.1, (h2 hk).2.2.only (K := fun k => k = g) ((Only.refl (fun k => k = g) w).setCell (p := ⟨g, 7, none⟩) rfl _) (fun k hk e => by omega)⟩⟩
theorem SrcAt.strs {w : World} {b : Nat} {l : List (List UInt8)} (h : StrsAt w b l) (k : Nat) (hk : l.length = k) (c : Nat) : SrcAt w (.slice (some ⟨b, 0, none⟩) k c) k (l.map strV) := by
  refine ⟨_, _, rfl, (fun e => by cases e), fun ad e j u hj => ?_⟩
  cases e
  rw [List.getElem?_map] at hj
  obtain ⟨t, ht, rfl⟩ := Option.map_eq_some_iff.1 hj
  obtain ⟨hj2, rfl⟩ := List.getElem?_eq_some_iff.1 ht
  have e1 : (⟨b, 0, none⟩ : Addr).add j = ⟨b, j, none⟩ := by unfold Addr.add; by_cases hj : j = 0 <;> simp [hj]
  rw [e1]
  exact h.2 j hj2
end Go.Proofs.YtcjcflmnghhbaaaGreat
/-
  The reference's parser where something is wrong already; of chapter 27. (Printed by gen_rq1.py.)
  Conditions: as each theorem states them.
-/
namespace Go.Proofs.YtcjcflmnghhbaaaGreat
open Go.RowKit
set_option linter.unusedVariables false
set_option linter.unusedSimpArgs false
open CM (Pc Ps)
def zeroN : List Value := nodeC [] none 0 0 [] 0 none 0 0
theorem zeroN_some : SomeN zeroN := ⟨_, _, _, _, _, _, _, _, _, rfl⟩
set_option maxRecDepth 100000 in
theorem part_bad {s : List UInt8} {g d a : Nat} {x : Int} {w : World} (h : Bad w g s d a x) : Calls Tryz.prog 70 #[.pointer (some ⟨g, 0, none⟩)] w (RBad s g d a x w) := by
  have hb : Below w.heap.size w (w.alloc (.cells zeroN.toArray 81)) := bl_alloc (Below.refl _ _) _
  have hr := Lib.hid (⟨Only.of_below hb, h.below hb, zeroN, rfl, zeroN_some⟩ : RBad s g d a x w (.returned (.agg zeroN.toArray)) (w.alloc (.cells zeroN.toArray 81)))
  obtain ⟨r, hB, _, _, rfl, hx⟩ := h
  have c9 := (RAt.facts hB).2.2.2.2.2.2.2.2.2
  have hl := hB.lt
  have q0 : (r.e != 0) = true := by simpa using hx
  clear hB hx hb
  go_enter Tryz.func70, Tryz.ntmps70
  go_wp2_with fail
  exact bodyPost_ret (v := .agg #[.string ⟨#[]⟩, .slice none 0 0, .string ⟨#[]⟩, .int .i64 0, .slice none 0 0]) (by simp [results, Tryz.results70, go_sem]) rfl hr.out
set_option maxHeartbeats 4000000 in
set_option maxRecDepth 100000 in
theorem both_bad {s : List UInt8} {g d a : Nat} {x : Int} {w : World} (h : Bad w g s d a x) : Calls Tryz.prog 58 #[.pointer (some ⟨g, 0, none⟩)] w (RBad s g d a x w) := by
  have hbA : Below w.heap.size w (w.alloc (.cells zeroN.toArray 81)) := bl_alloc (Below.refl _ _) _
  have hT := Blk.new w 81 zeroN
  obtain ⟨W1, hW1⟩ : ∃ W1, w.alloc (.cells zeroN.toArray 81) = W1 := ⟨_, rfl⟩
  rw [hW1] at hbA hT
  have hpt := Lib.hid (part_bad (h.below hbA))
  have hlw := hT.lt
  have hgw := h.lt
  replace hW1 := Lib.hid hW1
  replace hbA := Lib.hid hbA
  replace hT := Lib.hid hT
  unfold zeroN nodeC at hW1 hT
  clear h
  go_enter Tryz.func58, Tryz.ntmps58
  go_upto_region 1 with fail
  rw [hW1.out]
  go_upto_block 0 with (go_at_call 70; refine hpt.out.mono ?_; rintro e w3 ⟨hO, hB3, v, rfl, xw, xa, xn, xc, xs, xm, xb, xbn, xbc, rfl⟩; replace hO := Lib.hid hO; replace hB3 := Lib.hid hB3; unfold nodeC)
  have hbB : Below w3.heap.size w3 ((w3.alloc (.cells #[strV xw, .slice xa xn xc, strV xs, .int .i64 xm, .slice xb xbn xbc] 81)).alloc (.cells #[.string ⟨#[97, 110, 100]⟩, .slice (some ⟨w3.heap.size, 0, none⟩) 1 1, .string ⟨#[]⟩, .int .i64 0, .slice none 0 0] 81)) := bl_alloc (bl_alloc (Below.refl _ _) _) _
  have hnB : Blk ((w3.alloc (.cells #[strV xw, .slice xa xn xc, strV xs, .int .i64 xm, .slice xb xbn xbc] 81)).alloc (.cells #[.string ⟨#[97, 110, 100]⟩, .slice (some ⟨w3.heap.size, 0, none⟩) 1 1, .string ⟨#[]⟩, .int .i64 0, .slice none 0 0] 81)) (w3.heap.size + 1) 81 (nodeC [97, 110, 100] (some ⟨w3.heap.size, 0, none⟩) 1 1 [] 0 none 0 0) := by
    have := Blk.new (w3.alloc (.cells #[strV xw, .slice xa xn xc, strV xs, .int .i64 xm, .slice xb xbn xbc] 81)) 81 (nodeC [97, 110, 100] (some ⟨w3.heap.size, 0, none⟩) 1 1 [] 0 none 0 0)
    rw [size_alloc'] at this; exact this
  generalize hW5 : World.alloc (World.alloc w3 _) _ = W5 at *
  have hO5 : Oly g W1 W5 := Only.trans hO.out (Only.of_below hbB)
  have hB5 := hB3.out.below hbB
  have hT5 : Blk W5 w.heap.size 81 zeroN := Blk.only hT.out hO5 (by show ¬ w.heap.size = g; omega)
  have hOw : Oly g w W5 := Only.trans (Only.of_below hbA.out) hO5
  have his : Calls Tryz.prog 59 #[.pointer (some ⟨g, 0, none⟩), .int .i64 1, .string ⟨#[97, 110, 100]⟩] W5 fun e w' => e = .returned (.bool false) ∧ W5 = w' := ris_bad hB5 1 [97, 110, 100]
  replace his := Lib.hid his
  have n0 := hnB.cell 0
  have n1 := hnB.cell 1
  have n2 := hnB.cell 2
  have n3 := hnB.cell 3
  have n4 := hnB.cell 4
  have x0 := hT5.cell 0
  have x1 := hT5.cell 1
  have x2 := hT5.cell 2
  have x3 := hT5.cell 3
  have x4 := hT5.cell 4
  unfold zeroN nodeC at x0 x1 x2 x3 x4
  unfold nodeC at n0 n1 n2 n3 n4
  simp only [List.getElem?_cons_zero, List.getElem?_cons_succ] at n0 n1 n2 n3 n4 x0 x1 x2 x3 x4
  have y0 := hT5.free 0
  have y1 := hT5.free 1
  have y2 := hT5.free 2
  have y3 := hT5.free 3
  have y4 := hT5.free 4
  have ln5 := hnB.lt
  have lt5 := hT5.lt
  have hend := Lib.hid (fun (v0 v1 v2 v3 v4 : Value) => (⟨only_fresh (only_fresh (only_fresh (only_fresh (only_fresh hOw (Nat.le_refl _) 0 v0) (Nat.le_refl _) 1 v1) (Nat.le_refl _) 2 v2) (Nat.le_refl _) 3 v3) (Nat.le_refl _) 4 v4,
    hB5.only (K := fun k => k = w.heap.size) (((((Only.refl (fun k => k = w.heap.size) W5).setCell (p := ⟨w.heap.size, 0, none⟩) rfl v0).setCell (p := ⟨w.heap.size, 1, none⟩) rfl v1).setCell (p := ⟨w.heap.size, 2, none⟩) rfl v2).setCell (p := ⟨w.heap.size, 3, none⟩) rfl v3 |>.setCell (p := ⟨w.heap.size, 4, none⟩) rfl v4) (by show ¬ g = w.heap.size; omega),
    ((((hT5.set 0 v0).set 1 v1).set 2 v2).set 3 v3).set 4 v4⟩ : Oly g w _ ∧ Bad _ g s d a x ∧ Blk (((((W5.setCell ⟨w.heap.size, 0, none⟩ v0).setCell ⟨w.heap.size, 1, none⟩ v1).setCell ⟨w.heap.size, 2, none⟩ v2).setCell ⟨w.heap.size, 3, none⟩ v3).setCell ⟨w.heap.size, 4, none⟩ v4) w.heap.size 81 [v0, v1, v2, v3, v4]))
  replace hW5 := Lib.hid hW5
  clear hbB hnB hO5 hB5 hT5 hOw hT hO hB3 hbA hW1 hpt
  go_wp2_with fail
  go_loopg [] 0 (fun gh wr => W5 = wr)
  case atStart => exact rfl
  case round =>
    subst hrel
    go_wp2_with (go_at_call 59; (with_reducible refine his.out.mono ?_); rintro e w6 ⟨rfl, rfl⟩)
    obtain ⟨o1, o2, o3⟩ := hend.out (.string ⟨#[97, 110, 100]⟩) (.slice (some ⟨w3.heap.size, 0, none⟩) 1 1) (.string ⟨#[]⟩) (.int .i64 0) (.slice none 0 0)
    have e0 := o3.cell 0
    have e1 := o3.cell 1
    have e2 := o3.cell 2
    have e3 := o3.cell 3
    have e4 := o3.cell 4
    simp only [List.getElem?_cons_zero, List.getElem?_cons_succ] at e0 e1 e2 e3 e4
    clear o3
    generalize World.setCell (World.setCell (World.setCell (World.setCell (World.setCell _ _ _) _ _) _ _) _ _) _ _ = W9 at *
    have hfin : RBad s g d a x w (.returned (.agg (nodeC [97, 110, 100] (some ⟨w3.heap.size, 0, none⟩) 1 1 [] 0 none 0 0).toArray)) W9 := ⟨o1, o2, _, rfl, ⟨_, _, _, _, _, _, _, _, _, rfl⟩⟩
    unfold nodeC at hfin
    exact bodyPost_ret (v := .agg #[.string ⟨#[97, 110, 100]⟩, .slice (some ⟨w3.heap.size, 0, none⟩) 1 1, .string ⟨#[]⟩, .int .i64 0, .slice none 0 0]) (by simp [results, Tryz.results58, go_sem, e0, e1, e2, e3, e4]) rfl hfin
set_option maxHeartbeats 4000000 in
set_option maxRecDepth 100000 in
theorem either_bad {s : List UInt8} {g d a : Nat} {x : Int} {w : World} (h : Bad w g s d a x) : Calls Tryz.prog 35 #[.pointer (some ⟨g, 0, none⟩)] w (RBad s g d a x w) := by
  have hbA : Below w.heap.size w (w.alloc (.cells zeroN.toArray 81)) := bl_alloc (Below.refl _ _) _
  have hT := Blk.new w 81 zeroN
  obtain ⟨W1, hW1⟩ : ∃ W1, w.alloc (.cells zeroN.toArray 81) = W1 := ⟨_, rfl⟩
  rw [hW1] at hbA hT
  have hpt := Lib.hid (both_bad (h.below hbA))
  have hlw := hT.lt
  have hgw := h.lt
  replace hW1 := Lib.hid hW1
  replace hbA := Lib.hid hbA
  replace hT := Lib.hid hT
  unfold zeroN nodeC at hW1 hT
  clear h
  go_enter Tryz.func35, Tryz.ntmps35
  go_upto_region 1 with fail
  rw [hW1.out]
  go_upto_block 0 with (go_at_call 58; refine hpt.out.mono ?_; rintro e w3 ⟨hO, hB3, v, rfl, xw, xa, xn, xc, xs, xm, xb, xbn, xbc, rfl⟩; replace hO := Lib.hid hO; replace hB3 := Lib.hid hB3; unfold nodeC)
  have hbB : Below w3.heap.size w3 ((w3.alloc (.cells #[strV xw, .slice xa xn xc, strV xs, .int .i64 xm, .slice xb xbn xbc] 81)).alloc (.cells #[.string ⟨#[111, 114]⟩, .slice (some ⟨w3.heap.size, 0, none⟩) 1 1, .string ⟨#[]⟩, .int .i64 0, .slice none 0 0] 81)) := bl_alloc (bl_alloc (Below.refl _ _) _) _
  have hnB : Blk ((w3.alloc (.cells #[strV xw, .slice xa xn xc, strV xs, .int .i64 xm, .slice xb xbn xbc] 81)).alloc (.cells #[.string ⟨#[111, 114]⟩, .slice (some ⟨w3.heap.size, 0, none⟩) 1 1, .string ⟨#[]⟩, .int .i64 0, .slice none 0 0] 81)) (w3.heap.size + 1) 81 (nodeC [111, 114] (some ⟨w3.heap.size, 0, none⟩) 1 1 [] 0 none 0 0) := by
    have := Blk.new (w3.alloc (.cells #[strV xw, .slice xa xn xc, strV xs, .int .i64 xm, .slice xb xbn xbc] 81)) 81 (nodeC [111, 114] (some ⟨w3.heap.size, 0, none⟩) 1 1 [] 0 none 0 0)
    rw [size_alloc'] at this; exact this
  generalize hW5 : World.alloc (World.alloc w3 _) _ = W5 at *
  have hO5 : Oly g W1 W5 := Only.trans hO.out (Only.of_below hbB)
  have hB5 := hB3.out.below hbB
  have hT5 : Blk W5 w.heap.size 81 zeroN := Blk.only hT.out hO5 (by show ¬ w.heap.size = g; omega)
  have hOw : Oly g w W5 := Only.trans (Only.of_below hbA.out) hO5
  have his : Calls Tryz.prog 59 #[.pointer (some ⟨g, 0, none⟩), .int .i64 1, .string ⟨#[111, 114]⟩] W5 fun e w' => e = .returned (.bool false) ∧ W5 = w' := ris_bad hB5 1 [111, 114]
  replace his := Lib.hid his
  have n0 := hnB.cell 0
  have n1 := hnB.cell 1
  have n2 := hnB.cell 2
  have n3 := hnB.cell 3
  have n4 := hnB.cell 4
  have x0 := hT5.cell 0
  have x1 := hT5.cell 1
  have x2 := hT5.cell 2
  have x3 := hT5.cell 3
  have x4 := hT5.cell 4
  unfold zeroN nodeC at x0 x1 x2 x3 x4
  unfold nodeC at n0 n1 n2 n3 n4
  simp only [List.getElem?_cons_zero, List.getElem?_cons_succ] at n0 n1 n2 n3 n4 x0 x1 x2 x3 x4
  have y0 := hT5.free 0
  have y1 := hT5.free 1
  have y2 := hT5.free 2
  have y3 := hT5.free 3
  have y4 := hT5.free 4
  have ln5 := hnB.lt
  have lt5 := hT5.lt
  have hend := Lib.hid (fun (v0 v1 v2 v3 v4 : Value) => (⟨only_fresh (only_fresh (only_fresh (only_fresh (only_fresh hOw (Nat.le_refl _) 0 v0) (Nat.le_refl _) 1 v1) (Nat.le_refl _) 2 v2) (Nat.le_refl _) 3 v3) (Nat.le_refl _) 4 v4,
    hB5.only (K := fun k => k = w.heap.size) (((((Only.refl (fun k => k = w.heap.size) W5).setCell (p := ⟨w.heap.size, 0, none⟩) rfl v0).setCell (p := ⟨w.heap.size, 1, none⟩) rfl v1).setCell (p := ⟨w.heap.size, 2, none⟩) rfl v2).setCell (p := ⟨w.heap.size, 3, none⟩) rfl v3 |>.setCell (p := ⟨w.heap.size, 4, none⟩) rfl v4) (by show ¬ g = w.heap.size; omega),
    ((((hT5.set 0 v0).set 1 v1).set 2 v2).set 3 v3).set 4 v4⟩ : Oly g w _ ∧ Bad _ g s d a x ∧ Blk (((((W5.setCell ⟨w.heap.size, 0, none⟩ v0).setCell ⟨w.heap.size, 1, none⟩ v1).setCell ⟨w.heap.size, 2, none⟩ v2).setCell ⟨w.heap.size, 3, none⟩ v3).setCell ⟨w.heap.size, 4, none⟩ v4) w.heap.size 81 [v0, v1, v2, v3, v4]))
  replace hW5 := Lib.hid hW5
  clear hbB hnB hO5 hB5 hT5 hOw hT hO hB3 hbA hW1 hpt
  go_wp2_with fail
  go_loopg [] 0 (fun gh wr => W5 = wr)
  case atStart => exact rfl
  case round =>
    subst hrel
    go_wp2_with (go_at_call 59; (with_reducible refine his.out.mono ?_); rintro e w6 ⟨rfl, rfl⟩)
    obtain ⟨o1, o2, o3⟩ := hend.out (.string ⟨#[111, 114]⟩) (.slice (some ⟨w3.heap.size, 0, none⟩) 1 1) (.string ⟨#[]⟩) (.int .i64 0) (.slice none 0 0)
    have e0 := o3.cell 0
    have e1 := o3.cell 1
    have e2 := o3.cell 2
    have e3 := o3.cell 3
    have e4 := o3.cell 4
    simp only [List.getElem?_cons_zero, List.getElem?_cons_succ] at e0 e1 e2 e3 e4
    clear o3
    generalize World.setCell (World.setCell (World.setCell (World.setCell (World.setCell _ _ _) _ _) _ _) _ _) _ _ = W9 at *
    have hfin : RBad s g d a x w (.returned (.agg (nodeC [111, 114] (some ⟨w3.heap.size, 0, none⟩) 1 1 [] 0 none 0 0).toArray)) W9 := ⟨o1, o2, _, rfl, ⟨_, _, _, _, _, _, _, _, _, rfl⟩⟩
    unfold nodeC at hfin
    exact bodyPost_ret (v := .agg #[.string ⟨#[111, 114]⟩, .slice (some ⟨w3.heap.size, 0, none⟩) 1 1, .string ⟨#[]⟩, .int .i64 0, .slice none 0 0]) (by simp [results, Tryz.results35, go_sem, e0, e1, e2, e3, e4]) rfl hfin
end Go.Proofs.YtcjcflmnghhbaaaGreat
/-
  The reference's both and either: what their loops keep; of chapter 27.
  Conditions: as each theorem states them.
-/
namespace Go.Proofs.YtcjcflmnghhbaaaGreat
open Go.RowKit
set_option linter.unusedVariables false
set_option linter.unusedSimpArgs false
open CM (Pc Ps)
section
variable {P : Program} {ops : Array Oper} {w : World}
/-- an append at an operation, and where the row lies behind it -/
theorem wp_append_on {o : Oper} {a : Act} {K : Act → World → Prop} {Q : Exit → Act → World → Prop} (s x : Operand) (t : TypeId)
    (ho : o.op = .call { callee := .builtin .append, args := #[s, x], argTypes := #[t, t] })
    (base : Nat) (e : TypeId) (i : TypeInfo) (z : Value) (size bytes : Nat) (ht : P.underlying t = some (.slice e)) (hi : P.info? e = some i) (hz : i.zero = some z)
    (hsize : i.size = size) (hby : i.bytes = bytes) (hzs : z.cells.size = size) (hsz : 0 < size)
    (v : Value) (n : Nat) (xs : List Value) (hs : a.eval s = v) (hown : w.ownsRow base e size v n xs)
    (ad : Addr) (m c : Nat) (news : List Value) (hx : a.eval x = .slice (some ad) m c) (hsv : ∀ j u, news[j]? = some u → w.cell? (ad.add j) = some u) (hl : news.length = m * size) (h1 : ∀ u ∈ news, u.oneCell' = true)
    (h63 : n + m ≤ maxLen) (hbytes : (n + m) * bytes ≤ 140737488355328) (hbase : base ≤ w.heap.size)
    (h : ∀ v' w', w'.ownsRow base e size v' (n + m) (xs ++ news) → w.grownBy w' v.ownBlock → (v'.ownBlock = v.ownBlock ∨ v'.ownBlock = some w.heap.size) → K (a.put o.dst v') w') : o.wp P a w K Q := by
  obtain ⟨v', w', hr, h2, h3, _, h4⟩ := run_append_own_at (P := P) w base t o.type e i z size bytes ht hi hz hsize hby hzs hsz v n xs hown ad m c news hl hsv h1 h63 hbytes hbase
  unfold Oper.wp execOp
  simp only [ho, resolve, invoke, builtin, Sem.run_bind, Sem.run_pure, Result.andThen_ok, List.map_toArray, List.map_cons, List.map_nil, hs, hx, hr]
  exact h v' w' h2 h3 h4
end
theorem SomeN.len {c : List Value} (h : SomeN c) : c.length = 5 := by obtain ⟨_, _, _, _, _, _, _, _, _, rfl⟩ := h; rfl
theorem SomeN.one {c : List Value} (h : SomeN c) : ∀ u ∈ c, u.oneCell' = true := by
  obtain ⟨_, _, _, _, _, _, _, _, _, rfl⟩ := h
  intro u hu
  simp only [nodeC, List.mem_cons, List.not_mem_nil, or_false] at hu
  rcases hu with rfl | rfl | rfl | rfl | rfl <;> rfl
theorem infoNode : (Tryz.prog.info? 81).map (fun i => (i.zero, i.size, i.bytes)) = some (some (.agg #[.string ⟨#[]⟩, .slice none 0 0, .string ⟨#[]⟩, .int .i64 0, .slice none 0 0]), 5, 88) := by kernel_rfl
theorem flat5_get : ∀ (l : List (List Value)) (hl : ∀ c ∈ l, c.length = 5) (i j : Nat) (hi : i < l.length), j < 5 → l.flatten[i * 5 + j]? = (l[i])[j]?
  | [], _, i, j, hi, _ => by simp at hi
  | x :: l, hl, 0, j, _, hj => by
    show (x ++ l.flatten)[0 * 5 + j]? = x[j]?
    rw [Nat.zero_mul, Nat.zero_add, List.getElem?_append_left (by rw [hl x (by simp)]; exact hj)]
  | x :: l, hl, i + 1, j, hi, hj => by
    show (x ++ l.flatten)[(i + 1) * 5 + j]? = _
    have hx := hl x (by simp)
    rw [List.getElem?_append_right (by omega), hx, show (i + 1) * 5 + j - 5 = i * 5 + j by omega]
    exact flat5_get l (fun c hc => hl c (by simp [hc])) i j (by simpa using hi) hj
/-- a part of a row of nodes: where it lies, and that the row and the node's own block lie apart -/
def KidOk (B nb : Nat) (v : Value) (W : World) (c : List Value) (phi : CM.M) : Prop := ∃ lo hi, NodeIs lo hi c phi W ∧ B < lo ∧ (nb < lo ∨ hi ≤ nb) ∧ ∀ r, v.ownBlock = some r → r < lo ∨ hi ≤ r
/-- the node that the loop fills -/
structure RowM (B nb : Nat) (word : List UInt8) (w wr : World) (g : Nat) (v : Value) (css : List (List Value)) : Prop where
  cells : ∃ la ln lc, v = .slice la ln lc ∧ Blk wr nb 81 (nodeC word la ln lc [] 0 none 0 0)
  row : wr.ownsRow B 81 5 v css.length css.flatten
  apart : v.ownBlock ≠ some nb ∧ v.ownBlock ≠ some B ∧ v.ownBlock ≠ some g
  res : Blk wr B 81 zeroN
  kids : ∀ c ∈ css, SomeN c
  only : Oly g w wr
  ord : B = w.heap.size ∧ g < B ∧ B < nb ∧ nb < wr.heap.size ∧ css ≠ []
theorem RowM.len {B nb : Nat} {word : List UInt8} {w wr : World} {g : Nat} {v : Value} {css : List (List Value)} (h : RowM B nb word w wr g v css) : ∃ r lc, v = .slice (some ⟨r, 0, none⟩) css.length lc ∧ B ≤ r ∧ r < wr.heap.size ∧ css.length ≤ lc ∧ ∀ i j (hi : i < css.length) u, (css[i])[j]? = some u → wr.cell? ⟨r, i * 5 + j, none⟩ = some u := by
  have hne := h.ord.2.2.2.2
  rcases h.row.2 with ⟨_, h2⟩ | ⟨r, cap, cur, h1, h2, h3, h4, h5, h6, h7⟩
  · exact absurd (List.eq_nil_of_length_eq_zero h2) hne
  · refine ⟨r, cap, h1, h2, (Array.getElem?_eq_some_iff.1 h3).1, h4, fun i j hi u hu => ?_⟩
    have hl5 : (css[i]).length = 5 := (h.kids _ (List.getElem_mem hi)).len
    have hj : j < 5 := by have := (List.getElem?_eq_some_iff.1 hu).1; omega
    have hlt : i * 5 + j < css.length * 5 := by omega
    rw [← flat5_get css (fun c hc => (h.kids c hc).len) i j hi hj, ← h7, List.getElem?_take, if_pos hlt] at hu
    simp only [World.cell?, h3]
    simpa using hu
/-- a new block's cells, where another world's changes do not come -/
theorem KidOk.only {K : Nat → Prop} {B nb : Nat} {v : Value} {W W' : World} {c : List Value} {phi : CM.M} (h : KidOk B nb v W c phi) (ho : Only K W W') (hK : ∀ k, K k → k ≤ B ∨ k = nb ∨ v.ownBlock = some k) : KidOk B nb v W' c phi := by
  obtain ⟨lo, hi, h1, h2, h3, h4⟩ := h
  refine ⟨lo, hi, h1.keep (KeepI.only ho h1.1 (fun k k1 k2 hk => ?_)), h2, h3, h4⟩
  rcases hK k hk with e | e | e
  · omega
  · subst e; rcases h3 with h | h <;> omega
  · rcases h4 k e with h | h <;> omega
/-- one more in the row -/
theorem RowM.push {B nb : Nat} {word : List UInt8} {w wr w5 w6 : World} {g : Nat} {v v2 : Value} {css : List (List Value)} {c : List Value} (h : RowM B nb word w wr g v css) (hO : Oly g wr w5) (hc : SomeN c)
    (hg : (w5.alloc (.cells c.toArray 81)).grownBy w6 v.ownBlock) (ho : w6.ownsRow B 81 5 v2 (css.length + 1) (css.flatten ++ c)) (hv : v2.ownBlock = v.ownBlock ∨ v2.ownBlock = some (w5.alloc (.cells c.toArray 81)).heap.size) :
    RowM B nb word w (w6.setCell ⟨nb, 1, none⟩ v2) g v2 (css ++ [c]) ∧ (w6.cell? ⟨nb, 1, none⟩ = some v ∧ w6.frozen? ⟨nb, 1, none⟩ = false ∧ nb < w6.heap.size) ∧ (∀ c' phi', KidOk B nb v wr c' phi' → KidOk B nb v2 (w6.setCell ⟨nb, 1, none⟩ v2) c' phi') ∧ (∀ phi, NodeIs wr.heap.size w5.heap.size c phi w5 → KidOk B nb v2 (w6.setCell ⟨nb, 1, none⟩ v2) c phi) ∧ Only (fun k => k = nb ∨ v.ownBlock = some k) w5 (w6.setCell ⟨nb, 1, none⟩ v2) := by
  obtain ⟨la, ln, lc, hve, hnb⟩ := h.cells
  obtain ⟨o1, o2, o3, o4, o5⟩ := h.ord
  obtain ⟨a1, a2, a3⟩ := h.apart
  have hs5 := hO.size
  have hs6 := hg.size
  rw [size_alloc'] at hs6
  have hvl := fun r hr => (h.row.lt r hr)
  have hnb5 : Blk w5 nb 81 (nodeC word la ln lc [] 0 none 0 0) := hnb.only hO (by show ¬ nb = g; omega)
  have hnb6 : Blk w6 nb 81 (nodeC word la ln lc [] 0 none 0 0) := (hnb5.alloc _).of_eq (hg.block nb (by simp; omega) (fun e => a1 e.symm))
  have hres6 : Blk w6 B 81 zeroN := ((h.res.only hO (by show ¬ B = g; omega)).alloc _).of_eq (hg.block B (by simp; omega) (fun e => a2 e.symm))
  have hOK : Only (fun k => k = nb ∨ v.ownBlock = some k) w5 (w6.setCell ⟨nb, 1, none⟩ v2) := by
    refine Only.setCell ?_ (p := ⟨nb, 1, none⟩) (.inl rfl) _
    exact ⟨hg.os, hg.tape, hg.output, by omega, fun k hk hn => (hg.block k (by simp; omega) (fun e => hn (.inr e.symm))).trans (Below.heap_alloc w5 _ k hk)⟩
  have hOw : Oly g w (w6.setCell ⟨nb, 1, none⟩ v2) := by
    refine ⟨hOK.os.trans (hO.os.trans h.only.os), hOK.tape.trans (hO.tape.trans h.only.tape), hOK.output.trans (hO.output.trans h.only.output), Nat.le_trans h.only.size (Nat.le_trans hs5 hOK.size), fun k hk hn => ?_⟩
    have hkr : k < wr.heap.size := Nat.lt_of_lt_of_le hk h.only.size
    rw [hOK.block k (by omega) (fun e => by
      rcases e with e | e
      · omega
      · have := (hvl k e).1; omega), hO.block k hkr hn, h.only.block k hk hn]
  have hv2 : ∀ r, v2.ownBlock = some r → v.ownBlock = some r ∨ w5.heap.size < r := fun r hr => by
    rcases hv with e | e
    · exact .inl (by rw [← e]; exact hr)
    · right; rw [e] at hr; simp at hr; omega
  have hsl : ∃ a m cc, v2 = .slice a m cc := by
    rcases ho.2 with ⟨e, _⟩ | ⟨gg, cap, cur, e, _⟩
    · exact ⟨_, _, _, e⟩
    · exact ⟨_, _, _, e⟩
  obtain ⟨la2, ln2, lc2, hve2⟩ := hsl
  refine ⟨⟨⟨la2, ln2, lc2, hve2, by rw [hve2]; exact hnb6.set 1 _⟩, ?_, ⟨fun e => ?_, fun e => ?_, fun e => ?_⟩, hres6.set_other (p := ⟨nb, 1, none⟩) (by show nb ≠ B; omega) _, fun x hx => ?_, hOw, ⟨o1, o2, o3, by have := hOK.size; simp [World.setCell]; omega, by simp⟩⟩, ⟨?_, hnb6.free 1, hnb6.lt⟩, fun c' phi' hk => ?_, fun phi hN => ?_, hOK⟩
  · rw [List.length_append, List.flatten_append, show [c].flatten = c by simp]
    refine ⟨ho.1, ?_⟩
    rcases ho.2 with h1 | ⟨g2, cap, cur, h1, h2, h3, h4⟩
    · exact .inl h1
    · refine .inr ⟨g2, cap, cur, h1, h2, ?_, h4⟩
      rw [Below.heap_setCell _ _ _ _ (fun e => by
        have h9 : v2.ownBlock = some g2 := by rw [h1]; rfl
        rcases hv2 g2 h9 with h8 | h8
        · exact a1 (by rw [h8, e])
        · have : g2 = nb := e
          omega)]
      exact h3
  · rcases hv2 _ e with h8 | h8
    · exact a1 h8
    · omega
  · rcases hv2 _ e with h8 | h8
    · exact a2 h8
    · omega
  · rcases hv2 _ e with h8 | h8
    · exact a3 h8
    · omega
  · rcases List.mem_append.1 hx with h1 | h1
    · exact h.kids x h1
    · obtain rfl : x = c := by simpa using h1
      exact hc
  · have := hnb6.cell 1
    rw [this, hve]; rfl
  · obtain ⟨lo, hi, k1, k2, k3, k4⟩ := (hk.only hO (fun k e => .inl (by rw [e]; omega))).only hOK (fun k e => by rcases e with e | e; exact .inr (.inl e); exact .inr (.inr e))
    obtain ⟨lo0, hi0, m1, m2, m3, m4⟩ := hk
    refine ⟨lo0, hi0, ?_, m2, m3, fun r hr => ?_⟩
    · have := m1.1
      refine m1.keep ((KeepI.only hO m1.1 (fun k k1 k2 e => by omega)).trans (KeepI.only hOK (by omega) (fun k k1 k2 e => ?_)))
      rcases e with e | e
      · subst e; rcases m3 with h | h <;> omega
      · rcases m4 k e with h | h <;> omega
    · have := m1.1
      rcases hv2 r hr with h8 | h8
      · exact m4 r h8
      · right; omega
  · refine ⟨wr.heap.size, w5.heap.size, hN.keep (KeepI.only hOK (Nat.le_refl _) (fun k k1 k2 e => ?_)), by omega, .inl (by omega), fun r hr => ?_⟩
    · rcases e with e | e
      · omega
      · have := (hvl k e).2; omega
    · rcases hv2 r hr with h8 | h8
      · left; exact (hvl r h8).2
      · right; omega
end Go.Proofs.YtcjcflmnghhbaaaGreat
/-
  The reference's both and either: what a round leaves; of chapter 27. (Printed by gen_rq3.py.)
  Conditions: as each theorem states them.
-/
namespace Go.Proofs.YtcjcflmnghhbaaaGreat
open Go.RowKit
set_option linter.unusedVariables false
set_option linter.unusedSimpArgs false
open CM (Pc Ps)
/-- what the three functions of the reference's parser are to do -/
def RPart (s : List UInt8) (n : Nat) : Prop := ∀ p w g nn, Good nn w g s p → g < nn → Sg p.pc → CM.Ok s p → 3 * CM.mu s p + 1 ≤ n → Calls Tryz.prog 70 #[.pointer (some ⟨g, 0, none⟩)] w (ROut s g p.deep (CM.run s n .part p) w)
def RBoth (s : List UInt8) (n : Nat) : Prop := ∀ p w g nn, Good nn w g s p → g < nn → Sg p.pc → CM.Ok s p → 3 * CM.mu s p + 2 ≤ n → Calls Tryz.prog 58 #[.pointer (some ⟨g, 0, none⟩)] w (ROut s g p.deep (CM.run s n .both p) w)
def REither (s : List UInt8) (n : Nat) : Prop := ∀ p w g nn, Good nn w g s p → g < nn → Sg p.pc → CM.Ok s p → 3 * CM.mu s p + 3 ≤ n → Calls Tryz.prog 35 #[.pointer (some ⟨g, 0, none⟩)] w (ROut s g p.deep (CM.run s n .either p) w)
/-- a row's parts, and the reader behind them -/
structure NGood (s : List UInt8) (g D n : Nat) (B nb : Nat) (v : Value) (W Wr : World) (css : List (List Value)) (q : Ps) (l : List (List Value × CM.M)) : Prop where
  css : css = l.map Prod.fst
  kids : ∀ p ∈ l, KidOk B nb v W p.1 p.2
  good : Good n Wr g s q
  sg : Sg q.pc
  ok : CM.Ok s q
  deep : q.deep = D
theorem own_slice' {w : World} {base e k n : Nat} {v : Value} {xs : List Value} (h : w.ownsRow base e k v n xs) : ∃ a c, v = .slice a n c := by
  rcases h.2 with ⟨rfl, rfl⟩ | ⟨g, cap, cur, rfl, _⟩
  · exact ⟨_, _, rfl⟩
  · exact ⟨_, _, rfl⟩
theorem nrow_only {K : Nat → Prop} {w w' : World} {base : Nat} {e : TypeId} {size : Nat} {v : Value} {n : Nat} {xs : List Value} (h : w.ownsRow base e size v n xs) (ho : Only K w w') (hn : ∀ r, v.ownBlock = some r → ¬ K r) : w'.ownsRow base e size v n xs := by
  refine ⟨h.1, ?_⟩
  rcases h.2 with h1 | ⟨g2, cap, cur, h1, h2, h3, h4⟩
  · exact .inl h1
  · exact .inr ⟨g2, cap, cur, h1, h2, (ho.block g2 (Array.getElem?_eq_some_iff.1 h3).1 (hn g2 (by rw [h1]; rfl))).trans h3, h4⟩
theorem node_new (w : World) (g : Nat) (hg : g = w.heap.size) (e : TypeId) (l : List Value) : ∀ j u, l[j]? = some u → (w.alloc (.cells l.toArray e)).cell? ((⟨g, 0, none⟩ : Addr).add j) = some u := fun j u h => by
  subst hg
  have e1 : (⟨w.heap.size, 0, none⟩ : Addr).add j = ⟨w.heap.size, j, none⟩ := by unfold Addr.add; by_cases hj : j = 0 <;> simp [hj]
  rw [e1]
  exact ((Blk.new w e l).cell j).trans h
theorem drewOly (g : Nat) (w : World) : Oly g w w.drew := Only.of_below (bl_drew (Below.refl _ _))
theorem row_first (W : World) (c : List Value) (hc : c.length = 5) : (W.alloc (.cells c.toArray 81)).ownsRow W.heap.size 81 5 (.slice (some ⟨W.heap.size, 0, none⟩) 1 1) 1 c := by
  refine ⟨by omega, .inr ⟨W.heap.size, 1, c.toArray, rfl, Nat.le_refl _, by show (W.heap.push _)[W.heap.size]? = _; simp, Nat.le_refl _, by decide, by simp [hc], ?_⟩⟩
  exact List.take_of_length_le (by simp [hc])
/-- the loop of both -/
def BothRel (s : List UInt8) (g D N : Nat) (R : Except CM.Er (CM.M × Ps)) (w : World) (B nb : Nat) (gh : Nat) (wr : World) : Prop := ∃ v css, RowM B nb CM.andW w wr g v css ∧ css.length + gh ≤ N + 1 ∧ ((∃ l phi q, NGood s g D (B + 1) B nb v wr wr css q l ∧ CM.run s gh (.bothL phi) q = R ∧ (∀ a b, phi a b = l.all fun p => p.2 a b) ∧ 3 * CM.mu s q + 2 ≤ gh) ∨ ∃ a x, R = .error (a, x) ∧ Bad wr g s D a x)
/-- what the inner call leaves in a round -/
def BothIn (s : List UInt8) (g D k : Nat) (R : Except CM.Er (CM.M × Ps)) (B nb : Nat) (v : Value) (css : List (List Value)) (wr w5 w6 : World) (c : List Value) : Prop := (∃ l, ∃ psi chi : CM.M, ∃ q, NGood s g D w5.heap.size B nb v wr w6 css q l ∧ CM.run s k (.bothL (fun was now => psi was now && chi was now)) q = R ∧ (∀ a b, psi a b = l.all fun p => p.2 a b) ∧ NodeIs w5.heap.size w6.heap.size c chi w6 ∧ 3 * CM.mu s q + 2 ≤ k) ∨ ∃ a x, R = .error (a, x) ∧ Bad w6 g s D a x
theorem both_push {s : List UInt8} {g D N k B nb : Nat} {R : Except CM.Er (CM.M × Ps)} {w wr w5 w6 w7 : World} {v v2 : Value} {css : List (List Value)} {c : List Value} (h : RowM B nb CM.andW w wr g v css) (hN : css.length + (k + 1) ≤ N + 1) (hO5 : Oly g wr w5) (hO : Oly g w5 w6) (hc : SomeN c)
    (hJ : BothIn s g D k R B nb v css wr w5 w6 c) (hg : (w6.alloc (.cells c.toArray 81)).grownBy w7 v.ownBlock) (ho : w7.ownsRow B 81 5 v2 (css.length + 1) (css.flatten ++ c)) (hv : v2.ownBlock = v.ownBlock ∨ v2.ownBlock = some (w6.alloc (.cells c.toArray 81)).heap.size) :
    BothRel s g D N R w B nb k (w7.setCell ⟨nb, 1, none⟩ v2) ∧ w7.cell? ⟨nb, 1, none⟩ = some v ∧ w7.frozen? ⟨nb, 1, none⟩ = false ∧ nb < w7.heap.size := by
  have hOt : Oly g wr w6 := Only.trans hO5 hO
  obtain ⟨p1, p2, p3, p4, p5⟩ := h.push hOt hc hg ho hv
  refine ⟨⟨v2, css ++ [c], p1, by simp; omega, ?_⟩, p2⟩
  obtain ⟨o1, o2, o3, o4, o5⟩ := h.ord
  have hs5 := hO5.size
  have hvl := fun r hr => (h.row.lt r hr)
  have hng : ¬ (g = nb ∨ v.ownBlock = some g) := by
    rintro (e | e)
    · omega
    · exact h.apart.2.2 e
  rcases hJ with ⟨l, psi, chi, q, hq, hrun, hall, hnode, hmu⟩ | ⟨a, x, hR, hB⟩
  · refine .inl ⟨l ++ [(c, chi)], _, q, ⟨?_, fun p hp => ?_, ?_, hq.sg, hq.ok, hq.deep⟩, hrun, fun a b => ?_, hmu⟩
    · rw [hq.css]; simp
    · rcases List.mem_append.1 hp with h1 | h1
      · exact p3 _ _ (hq.kids p h1)
      · obtain rfl : p = (c, chi) := by simpa using h1
        exact p4 chi (hnode.wide hs5 (Nat.le_refl _) hnode.1)
    · refine (hq.good.only p5 hng (fun j hj e => ?_)).mono (by omega)
      rcases e with e | e
      · omega
      · have := (hvl j e).2; omega
    · rw [List.all_append, hall]; simp
  · exact .inr ⟨a, x, hR, hB.only p5 hng⟩
theorem both_inner {s : List UInt8} {g D k B nb : Nat} {R : Except CM.Er (CM.M × Ps)} {wr w5 : World} {v : Value} {css : List (List Value)} {l : List (List Value × CM.M)} {psi : CM.M} {q : Ps} (IH : RPart s k) (hq : NGood s g D (B + 1) B nb v wr wr css q l) (hrun : CM.run s (k + 1) (.bothL psi) q = R) (hall : ∀ a b, psi a b = l.all fun p => p.2 a b) (hmu : 3 * CM.mu s q + 2 ≤ k + 1) (hi : q.pc.is 1 CM.andW = true)
    (hgr : g < wr.heap.size) (hO : Oly g wr w5) (hN : NextIn s g q wr.heap.size w5) : Calls Tryz.prog 70 #[.pointer (some ⟨g, 0, none⟩)] w5.drew fun e w6 => ∃ c : List Value, e = .returned (.agg c.toArray) ∧ SomeN c ∧ Oly g w5.drew w6 ∧ BothIn s g D k R B nb v css wr w5.drew w6 c := by
  simp only [CM.run] at hrun
  rw [if_pos hi] at hrun
  unfold NextIn at hN
  cases hn : q.next s with
  | error e =>
    obtain ⟨a, x⟩ := e
    rw [hn] at hrun hN
    simp only at hrun hN
    rw [hq.deep] at hN
    refine (part_bad (hN.below (bl_drew (Below.refl _ _)) : Bad w5.drew g s D a x)).mono ?_
    rintro e w6 ⟨o, b, v, rfl, hv⟩
    exact ⟨v, rfl, hv, o, .inr ⟨a, x, hrun.symm, b⟩⟩
  | ok t =>
    rw [hn] at hrun hN
    simp only at hrun hN
    obtain ⟨ht, htlt⟩ := CM.next_less hq.ok (CM.is_some hi) hn
    refine (IH t w5.drew g _ (hN.below (bl_drew (Below.refl _ _))) hgr (next_sg hn) ht.ok (by omega)).mono ?_
    rintro e w6 ⟨o, v, rfl, hv, hm⟩
    refine ⟨v, rfl, hv, o, ?_⟩
    cases hp : CM.run s k .part t with
    | error e =>
      obtain ⟨a, x⟩ := e
      rw [hp] at hrun hm
      simp only at hrun hm
      rw [ht.deep, hq.deep] at hm
      exact .inr ⟨a, x, hrun.symm, hm⟩
    | ok fr =>
      obtain ⟨chi, u⟩ := fr
      rw [hp] at hrun hm
      simp only at hrun hm
      obtain ⟨hu, hult⟩ := CM.run_less s k _ _ _ _ ht.ok hp
      have hult := hult rfl
      exact .inl ⟨l, psi, chi, u, ⟨hq.css, hq.kids, hm.2.1, hm.2.2, hu.ok, hu.deep.trans (ht.deep.trans hq.deep)⟩, hrun, hall, hm.1, by omega⟩
theorem both_first {s : List UInt8} {g n : Nat} {R : Except CM.Er (CM.M × Ps)} {w w3 : World} {c : List Value} {p : Ps} (hR : CM.run s (n + 1) .both p = R) (hgw : g < w.heap.size) (hok : CM.Ok s p) (hmu : 3 * CM.mu s p + 2 ≤ n + 1) (o : Oly g (w.alloc (.cells zeroN.toArray 81)) w3) (hc : SomeN c)
    (hm : match CM.run s n .part p with | .ok (phi, q) => NodeIs (w.alloc (.cells zeroN.toArray 81)).heap.size w3.heap.size c phi w3 ∧ Good (w.alloc (.cells zeroN.toArray 81)).heap.size w3 g s q ∧ Sg q.pc | .error (a, x) => Bad w3 g s p.deep a x) :
    BothRel s g p.deep n R w w.heap.size (w3.heap.size + 1) n ((w3.alloc (.cells c.toArray 81)).alloc (.cells (nodeC CM.andW (some ⟨w3.heap.size, 0, none⟩) 1 1 [] 0 none 0 0).toArray 81)) := by
  have hb : Below w3.heap.size w3 ((w3.alloc (.cells c.toArray 81)).alloc (.cells (nodeC CM.andW (some ⟨w3.heap.size, 0, none⟩) 1 1 [] 0 none 0 0).toArray 81)) := bl_alloc (bl_alloc (Below.refl _ _) _) _
  have hs1 : (w.alloc (.cells zeroN.toArray 81)).heap.size = w.heap.size + 1 := size_alloc' _ _
  have hs3 := o.size
  rw [hs1] at hs3 hm
  have hnB : Blk ((w3.alloc (.cells c.toArray 81)).alloc (.cells (nodeC CM.andW (some ⟨w3.heap.size, 0, none⟩) 1 1 [] 0 none 0 0).toArray 81)) (w3.heap.size + 1) 81 (nodeC CM.andW (some ⟨w3.heap.size, 0, none⟩) 1 1 [] 0 none 0 0) := by
    have := Blk.new (w3.alloc (.cells c.toArray 81)) 81 (nodeC CM.andW (some ⟨w3.heap.size, 0, none⟩) 1 1 [] 0 none 0 0)
    rw [size_alloc'] at this; exact this
  have hrow := (row_first w3 c hc.len).alloc (.cells (nodeC CM.andW (some ⟨w3.heap.size, 0, none⟩) 1 1 [] 0 none 0 0).toArray 81)
  have hT : Blk w3 w.heap.size 81 zeroN := (Blk.new w 81 zeroN).only o (by show ¬ w.heap.size = g; omega)
  have hoW : Oly g w w3 := Only.trans (Only.of_below (bl_alloc (Below.refl _ _) _)) o
  have hlt5 := hnB.lt
  generalize World.alloc (World.alloc w3 _) _ = W5 at *
  have hM : RowM w.heap.size (w3.heap.size + 1) CM.andW w W5 g (.slice (some ⟨w3.heap.size, 0, none⟩) 1 1) [c] := by
    refine ⟨⟨_, _, _, rfl, hnB⟩, ⟨by simp [hc.len], ?_⟩, ⟨?_, ?_, ?_⟩, hT.below hb, by simpa using hc, Only.trans hoW (Only.of_below hb), ⟨rfl, hgw, by omega, hlt5, by simp⟩⟩
    · rcases hrow.2 with ⟨h1, h2⟩ | ⟨g2, cap, cur, h1, h2, h3, h4, h5, h6, h7⟩
      · cases h1
      · exact .inr ⟨g2, cap, cur, h1, by omega, h3, h4, h5, h6, by rw [show [c].flatten = c by simp]; exact h7⟩
    · show some w3.heap.size ≠ _; simp
    · show some w3.heap.size ≠ _; simp; omega
    · show some w3.heap.size ≠ _; simp; omega
  refine ⟨_, _, hM, by simp; omega, ?_⟩
  simp only [CM.run] at hR
  cases hp : CM.run s n .part p with
  | error e =>
    obtain ⟨a, x⟩ := e
    rw [hp] at hR hm
    simp only at hR hm
    exact .inr ⟨a, x, hR.symm, hm.below hb⟩
  | ok fr =>
    obtain ⟨chi, q⟩ := fr
    rw [hp] at hR hm
    simp only at hR hm
    obtain ⟨hu, hult⟩ := CM.run_less s n _ _ _ _ hok hp
    have hult := hult rfl
    refine .inl ⟨[(c, chi)], chi, q, ⟨rfl, fun y hy => ?_, hm.2.1.below hb, hm.2.2, hu.ok, hu.deep⟩, hR, fun a b => by simp, by omega⟩
    obtain rfl : y = (c, chi) := by simpa using hy
    exact ⟨_, _, hm.1.keep (KeepI.below hb (Nat.le_refl _)), by omega, .inr (by omega), fun r hr => by
      right
      have : w3.heap.size = r := by simpa [Value.ownBlock] using hr
      omega⟩
theorem both_end {s : List UInt8} {g D B nb : Nat} {R : Except CM.Er (CM.M × Ps)} {w wr : World} {la : Option Addr} {ln lc : Nat} {css : List (List Value)} (h : RowM B nb CM.andW w wr g (.slice la ln lc) css) (hl : css.length ≤ 100000)
    (hE : (∃ l phi q, NGood s g D (B + 1) B nb (.slice la ln lc) wr wr css q l ∧ R = .ok (phi, q) ∧ ∀ a b, phi a b = l.all fun p => p.2 a b) ∨ ∃ a x, R = .error (a, x) ∧ Bad wr g s D a x) :
    Blk (((((wr.setCell ⟨B, 0, none⟩ (strV CM.andW)).setCell ⟨B, 1, none⟩ (.slice la ln lc)).setCell ⟨B, 2, none⟩ (strV [])).setCell ⟨B, 3, none⟩ (.int .i64 0)).setCell ⟨B, 4, none⟩ (.slice none 0 0)) B 81 (nodeC CM.andW la ln lc [] 0 none 0 0) ∧
    ROut s g D R w (.returned (.agg (nodeC CM.andW la ln lc [] 0 none 0 0).toArray)) (((((wr.setCell ⟨B, 0, none⟩ (strV CM.andW)).setCell ⟨B, 1, none⟩ (.slice la ln lc)).setCell ⟨B, 2, none⟩ (strV [])).setCell ⟨B, 3, none⟩ (.int .i64 0)).setCell ⟨B, 4, none⟩ (.slice none 0 0)) := by
  have hX : Blk (((((wr.setCell ⟨B, 0, none⟩ (strV CM.andW)).setCell ⟨B, 1, none⟩ (.slice la ln lc)).setCell ⟨B, 2, none⟩ (strV [])).setCell ⟨B, 3, none⟩ (.int .i64 0)).setCell ⟨B, 4, none⟩ (.slice none 0 0)) B 81 (nodeC CM.andW la ln lc [] 0 none 0 0) := ((((h.res.set 0 _).set 1 _).set 2 _).set 3 _).set 4 _
  have hO : Only (fun k => k = B) wr (((((wr.setCell ⟨B, 0, none⟩ (strV CM.andW)).setCell ⟨B, 1, none⟩ (.slice la ln lc)).setCell ⟨B, 2, none⟩ (strV [])).setCell ⟨B, 3, none⟩ (.int .i64 0)).setCell ⟨B, 4, none⟩ (.slice none 0 0)) := (((((Only.refl (fun k => k = B) wr).setCell (p := ⟨B, 0, none⟩) rfl _).setCell (p := ⟨B, 1, none⟩) rfl _).setCell (p := ⟨B, 2, none⟩) rfl _).setCell (p := ⟨B, 3, none⟩) rfl _).setCell (p := ⟨B, 4, none⟩) rfl _
  obtain ⟨o1, o2, o3, o4, o5⟩ := h.ord
  have hOw : Oly g w (((((wr.setCell ⟨B, 0, none⟩ (strV CM.andW)).setCell ⟨B, 1, none⟩ (.slice la ln lc)).setCell ⟨B, 2, none⟩ (strV [])).setCell ⟨B, 3, none⟩ (.int .i64 0)).setCell ⟨B, 4, none⟩ (.slice none 0 0)) := only_fresh (only_fresh (only_fresh (only_fresh (only_fresh h.only (by omega) 0 _) (by omega) 1 _) (by omega) 2 _) (by omega) 3 _) (by omega) 4 _
  refine ⟨hX, ?_⟩
  generalize World.setCell (World.setCell (World.setCell (World.setCell (World.setCell _ _ _) _ _) _ _) _ _) _ _ = W9 at *
  have hgB : ¬ g = B := by omega
  rcases hE with ⟨l, phi, q, hq, hR, hall⟩ | ⟨a, x, hR, hB⟩
  · obtain ⟨r, lc', hv, hr1, hr2, hr3, hcl⟩ := h.len
    have hsz := hO.size
    have hrB : ¬ r = B := fun e => h.apart.2.1 (by rw [hv, ← e]; rfl)
    have hll : css.length = l.length := by rw [hq.css]; simp
    have hrow : RowIs B W9.heap.size r l W9 := by
      refine ⟨Nat.le_refl _, hr1, by omega, fun i hi => ⟨?_, fun j u hu => ?_⟩⟩
      · obtain ⟨lo, hi2, k1, k2, k3, k4⟩ := (hq.kids _ (List.getElem_mem hi)).only hO (fun k e => .inl (by omega))
        exact k1.wide (by omega) k1.1 (Nat.le_refl _)
      · have h2 := hcl i j (by omega) u (by simp only [hq.css, List.getElem_map]; exact hu)
        exact (World.cell?_of_block (a := ⟨r, i * 5 + j, none⟩) (hO.block r hr2 hrB)).trans h2
    cases hv
    rw [hll]
    refine ROut.ok hR hOw (o1 ▸ (NodeIs.congr (NodeIs.and hrow (by omega) lc (by omega) [] 0 none 0 0) (fun a b => (hall a b).symm))) (o1 ▸ (hq.good.only hO hgB (fun k hk e => by omega)).mono (by omega)) hq.sg
  · exact ROut.err hR hOw ⟨_, _, _, _, _, _, _, _, _, rfl⟩ (hB.only hO hgB)
/-- the loop of either -/
def EitherRel (s : List UInt8) (g D N : Nat) (R : Except CM.Er (CM.M × Ps)) (w : World) (B nb : Nat) (gh : Nat) (wr : World) : Prop := ∃ v css, RowM B nb CM.orW w wr g v css ∧ css.length + gh ≤ N + 1 ∧ ((∃ l phi q, NGood s g D (B + 1) B nb v wr wr css q l ∧ CM.run s gh (.eitherL phi) q = R ∧ (∀ a b, phi a b = l.any fun p => p.2 a b) ∧ 3 * CM.mu s q + 2 ≤ gh) ∨ ∃ a x, R = .error (a, x) ∧ Bad wr g s D a x)
/-- what the inner call leaves in a round -/
def EitherIn (s : List UInt8) (g D k : Nat) (R : Except CM.Er (CM.M × Ps)) (B nb : Nat) (v : Value) (css : List (List Value)) (wr w5 w6 : World) (c : List Value) : Prop := (∃ l, ∃ psi chi : CM.M, ∃ q, NGood s g D w5.heap.size B nb v wr w6 css q l ∧ CM.run s k (.eitherL (fun was now => psi was now || chi was now)) q = R ∧ (∀ a b, psi a b = l.any fun p => p.2 a b) ∧ NodeIs w5.heap.size w6.heap.size c chi w6 ∧ 3 * CM.mu s q + 2 ≤ k) ∨ ∃ a x, R = .error (a, x) ∧ Bad w6 g s D a x
theorem either_push {s : List UInt8} {g D N k B nb : Nat} {R : Except CM.Er (CM.M × Ps)} {w wr w5 w6 w7 : World} {v v2 : Value} {css : List (List Value)} {c : List Value} (h : RowM B nb CM.orW w wr g v css) (hN : css.length + (k + 1) ≤ N + 1) (hO5 : Oly g wr w5) (hO : Oly g w5 w6) (hc : SomeN c)
    (hJ : EitherIn s g D k R B nb v css wr w5 w6 c) (hg : (w6.alloc (.cells c.toArray 81)).grownBy w7 v.ownBlock) (ho : w7.ownsRow B 81 5 v2 (css.length + 1) (css.flatten ++ c)) (hv : v2.ownBlock = v.ownBlock ∨ v2.ownBlock = some (w6.alloc (.cells c.toArray 81)).heap.size) :
    EitherRel s g D N R w B nb k (w7.setCell ⟨nb, 1, none⟩ v2) ∧ w7.cell? ⟨nb, 1, none⟩ = some v ∧ w7.frozen? ⟨nb, 1, none⟩ = false ∧ nb < w7.heap.size := by
  have hOt : Oly g wr w6 := Only.trans hO5 hO
  obtain ⟨p1, p2, p3, p4, p5⟩ := h.push hOt hc hg ho hv
  refine ⟨⟨v2, css ++ [c], p1, by simp; omega, ?_⟩, p2⟩
  obtain ⟨o1, o2, o3, o4, o5⟩ := h.ord
  have hs5 := hO5.size
  have hvl := fun r hr => (h.row.lt r hr)
  have hng : ¬ (g = nb ∨ v.ownBlock = some g) := by
    rintro (e | e)
    · omega
    · exact h.apart.2.2 e
  rcases hJ with ⟨l, psi, chi, q, hq, hrun, hall, hnode, hmu⟩ | ⟨a, x, hR, hB⟩
  · refine .inl ⟨l ++ [(c, chi)], _, q, ⟨?_, fun p hp => ?_, ?_, hq.sg, hq.ok, hq.deep⟩, hrun, fun a b => ?_, hmu⟩
    · rw [hq.css]; simp
    · rcases List.mem_append.1 hp with h1 | h1
      · exact p3 _ _ (hq.kids p h1)
      · obtain rfl : p = (c, chi) := by simpa using h1
        exact p4 chi (hnode.wide hs5 (Nat.le_refl _) hnode.1)
    · refine (hq.good.only p5 hng (fun j hj e => ?_)).mono (by omega)
      rcases e with e | e
      · omega
      · have := (hvl j e).2; omega
    · rw [List.any_append, hall]; simp
  · exact .inr ⟨a, x, hR, hB.only p5 hng⟩
theorem either_inner {s : List UInt8} {g D k B nb : Nat} {R : Except CM.Er (CM.M × Ps)} {wr w5 : World} {v : Value} {css : List (List Value)} {l : List (List Value × CM.M)} {psi : CM.M} {q : Ps} (IH : RBoth s k) (hq : NGood s g D (B + 1) B nb v wr wr css q l) (hrun : CM.run s (k + 1) (.eitherL psi) q = R) (hall : ∀ a b, psi a b = l.any fun p => p.2 a b) (hmu : 3 * CM.mu s q + 2 ≤ k + 1) (hi : q.pc.is 1 CM.orW = true)
    (hgr : g < wr.heap.size) (hO : Oly g wr w5) (hN : NextIn s g q wr.heap.size w5) : Calls Tryz.prog 58 #[.pointer (some ⟨g, 0, none⟩)] w5.drew fun e w6 => ∃ c : List Value, e = .returned (.agg c.toArray) ∧ SomeN c ∧ Oly g w5.drew w6 ∧ EitherIn s g D k R B nb v css wr w5.drew w6 c := by
  simp only [CM.run] at hrun
  rw [if_pos hi] at hrun
  unfold NextIn at hN
  cases hn : q.next s with
  | error e =>
    obtain ⟨a, x⟩ := e
    rw [hn] at hrun hN
    simp only at hrun hN
    rw [hq.deep] at hN
    refine (both_bad (hN.below (bl_drew (Below.refl _ _)) : Bad w5.drew g s D a x)).mono ?_
    rintro e w6 ⟨o, b, v, rfl, hv⟩
    exact ⟨v, rfl, hv, o, .inr ⟨a, x, hrun.symm, b⟩⟩
  | ok t =>
    rw [hn] at hrun hN
    simp only at hrun hN
    obtain ⟨ht, htlt⟩ := CM.next_less hq.ok (CM.is_some hi) hn
    refine (IH t w5.drew g _ (hN.below (bl_drew (Below.refl _ _))) hgr (next_sg hn) ht.ok (by omega)).mono ?_
    rintro e w6 ⟨o, v, rfl, hv, hm⟩
    refine ⟨v, rfl, hv, o, ?_⟩
    cases hp : CM.run s k .both t with
    | error e =>
      obtain ⟨a, x⟩ := e
      rw [hp] at hrun hm
      simp only at hrun hm
      rw [ht.deep, hq.deep] at hm
      exact .inr ⟨a, x, hrun.symm, hm⟩
    | ok fr =>
      obtain ⟨chi, u⟩ := fr
      rw [hp] at hrun hm
      simp only at hrun hm
      obtain ⟨hu, hult⟩ := CM.run_less s k _ _ _ _ ht.ok hp
      have hult := hult rfl
      exact .inl ⟨l, psi, chi, u, ⟨hq.css, hq.kids, hm.2.1, hm.2.2, hu.ok, hu.deep.trans (ht.deep.trans hq.deep)⟩, hrun, hall, hm.1, by omega⟩
theorem either_first {s : List UInt8} {g n : Nat} {R : Except CM.Er (CM.M × Ps)} {w w3 : World} {c : List Value} {p : Ps} (hR : CM.run s (n + 1) .either p = R) (hgw : g < w.heap.size) (hok : CM.Ok s p) (hmu : 3 * CM.mu s p + 3 ≤ n + 1) (o : Oly g (w.alloc (.cells zeroN.toArray 81)) w3) (hc : SomeN c)
    (hm : match CM.run s n .both p with | .ok (phi, q) => NodeIs (w.alloc (.cells zeroN.toArray 81)).heap.size w3.heap.size c phi w3 ∧ Good (w.alloc (.cells zeroN.toArray 81)).heap.size w3 g s q ∧ Sg q.pc | .error (a, x) => Bad w3 g s p.deep a x) :
    EitherRel s g p.deep n R w w.heap.size (w3.heap.size + 1) n ((w3.alloc (.cells c.toArray 81)).alloc (.cells (nodeC CM.orW (some ⟨w3.heap.size, 0, none⟩) 1 1 [] 0 none 0 0).toArray 81)) := by
  have hb : Below w3.heap.size w3 ((w3.alloc (.cells c.toArray 81)).alloc (.cells (nodeC CM.orW (some ⟨w3.heap.size, 0, none⟩) 1 1 [] 0 none 0 0).toArray 81)) := bl_alloc (bl_alloc (Below.refl _ _) _) _
  have hs1 : (w.alloc (.cells zeroN.toArray 81)).heap.size = w.heap.size + 1 := size_alloc' _ _
  have hs3 := o.size
  rw [hs1] at hs3 hm
  have hnB : Blk ((w3.alloc (.cells c.toArray 81)).alloc (.cells (nodeC CM.orW (some ⟨w3.heap.size, 0, none⟩) 1 1 [] 0 none 0 0).toArray 81)) (w3.heap.size + 1) 81 (nodeC CM.orW (some ⟨w3.heap.size, 0, none⟩) 1 1 [] 0 none 0 0) := by
    have := Blk.new (w3.alloc (.cells c.toArray 81)) 81 (nodeC CM.orW (some ⟨w3.heap.size, 0, none⟩) 1 1 [] 0 none 0 0)
    rw [size_alloc'] at this; exact this
  have hrow := (row_first w3 c hc.len).alloc (.cells (nodeC CM.orW (some ⟨w3.heap.size, 0, none⟩) 1 1 [] 0 none 0 0).toArray 81)
  have hT : Blk w3 w.heap.size 81 zeroN := (Blk.new w 81 zeroN).only o (by show ¬ w.heap.size = g; omega)
  have hoW : Oly g w w3 := Only.trans (Only.of_below (bl_alloc (Below.refl _ _) _)) o
  have hlt5 := hnB.lt
  generalize World.alloc (World.alloc w3 _) _ = W5 at *
  have hM : RowM w.heap.size (w3.heap.size + 1) CM.orW w W5 g (.slice (some ⟨w3.heap.size, 0, none⟩) 1 1) [c] := by
    refine ⟨⟨_, _, _, rfl, hnB⟩, ⟨by simp [hc.len], ?_⟩, ⟨?_, ?_, ?_⟩, hT.below hb, by simpa using hc, Only.trans hoW (Only.of_below hb), ⟨rfl, hgw, by omega, hlt5, by simp⟩⟩
    · rcases hrow.2 with ⟨h1, h2⟩ | ⟨g2, cap, cur, h1, h2, h3, h4, h5, h6, h7⟩
      · cases h1
      · exact .inr ⟨g2, cap, cur, h1, by omega, h3, h4, h5, h6, by rw [show [c].flatten = c by simp]; exact h7⟩
    · show some w3.heap.size ≠ _; simp
    · show some w3.heap.size ≠ _; simp; omega
    · show some w3.heap.size ≠ _; simp; omega
  refine ⟨_, _, hM, by simp; omega, ?_⟩
  simp only [CM.run] at hR
  cases hp : CM.run s n .both p with
  | error e =>
    obtain ⟨a, x⟩ := e
    rw [hp] at hR hm
    simp only at hR hm
    exact .inr ⟨a, x, hR.symm, hm.below hb⟩
  | ok fr =>
    obtain ⟨chi, q⟩ := fr
    rw [hp] at hR hm
    simp only at hR hm
    obtain ⟨hu, hult⟩ := CM.run_less s n _ _ _ _ hok hp
    have hult := hult rfl
    refine .inl ⟨[(c, chi)], chi, q, ⟨rfl, fun y hy => ?_, hm.2.1.below hb, hm.2.2, hu.ok, hu.deep⟩, hR, fun a b => by simp, by omega⟩
    obtain rfl : y = (c, chi) := by simpa using hy
    exact ⟨_, _, hm.1.keep (KeepI.below hb (Nat.le_refl _)), by omega, .inr (by omega), fun r hr => by
      right
      have : w3.heap.size = r := by simpa [Value.ownBlock] using hr
      omega⟩
theorem either_end {s : List UInt8} {g D B nb : Nat} {R : Except CM.Er (CM.M × Ps)} {w wr : World} {la : Option Addr} {ln lc : Nat} {css : List (List Value)} (h : RowM B nb CM.orW w wr g (.slice la ln lc) css) (hl : css.length ≤ 100000)
    (hE : (∃ l phi q, NGood s g D (B + 1) B nb (.slice la ln lc) wr wr css q l ∧ R = .ok (phi, q) ∧ ∀ a b, phi a b = l.any fun p => p.2 a b) ∨ ∃ a x, R = .error (a, x) ∧ Bad wr g s D a x) :
    Blk (((((wr.setCell ⟨B, 0, none⟩ (strV CM.orW)).setCell ⟨B, 1, none⟩ (.slice la ln lc)).setCell ⟨B, 2, none⟩ (strV [])).setCell ⟨B, 3, none⟩ (.int .i64 0)).setCell ⟨B, 4, none⟩ (.slice none 0 0)) B 81 (nodeC CM.orW la ln lc [] 0 none 0 0) ∧
    ROut s g D R w (.returned (.agg (nodeC CM.orW la ln lc [] 0 none 0 0).toArray)) (((((wr.setCell ⟨B, 0, none⟩ (strV CM.orW)).setCell ⟨B, 1, none⟩ (.slice la ln lc)).setCell ⟨B, 2, none⟩ (strV [])).setCell ⟨B, 3, none⟩ (.int .i64 0)).setCell ⟨B, 4, none⟩ (.slice none 0 0)) := by
  have hX : Blk (((((wr.setCell ⟨B, 0, none⟩ (strV CM.orW)).setCell ⟨B, 1, none⟩ (.slice la ln lc)).setCell ⟨B, 2, none⟩ (strV [])).setCell ⟨B, 3, none⟩ (.int .i64 0)).setCell ⟨B, 4, none⟩ (.slice none 0 0)) B 81 (nodeC CM.orW la ln lc [] 0 none 0 0) := ((((h.res.set 0 _).set 1 _).set 2 _).set 3 _).set 4 _
  have hO : Only (fun k => k = B) wr (((((wr.setCell ⟨B, 0, none⟩ (strV CM.orW)).setCell ⟨B, 1, none⟩ (.slice la ln lc)).setCell ⟨B, 2, none⟩ (strV [])).setCell ⟨B, 3, none⟩ (.int .i64 0)).setCell ⟨B, 4, none⟩ (.slice none 0 0)) := (((((Only.refl (fun k => k = B) wr).setCell (p := ⟨B, 0, none⟩) rfl _).setCell (p := ⟨B, 1, none⟩) rfl _).setCell (p := ⟨B, 2, none⟩) rfl _).setCell (p := ⟨B, 3, none⟩) rfl _).setCell (p := ⟨B, 4, none⟩) rfl _
  obtain ⟨o1, o2, o3, o4, o5⟩ := h.ord
  have hOw : Oly g w (((((wr.setCell ⟨B, 0, none⟩ (strV CM.orW)).setCell ⟨B, 1, none⟩ (.slice la ln lc)).setCell ⟨B, 2, none⟩ (strV [])).setCell ⟨B, 3, none⟩ (.int .i64 0)).setCell ⟨B, 4, none⟩ (.slice none 0 0)) := only_fresh (only_fresh (only_fresh (only_fresh (only_fresh h.only (by omega) 0 _) (by omega) 1 _) (by omega) 2 _) (by omega) 3 _) (by omega) 4 _
  refine ⟨hX, ?_⟩
  generalize World.setCell (World.setCell (World.setCell (World.setCell (World.setCell _ _ _) _ _) _ _) _ _) _ _ = W9 at *
  have hgB : ¬ g = B := by omega
  rcases hE with ⟨l, phi, q, hq, hR, hall⟩ | ⟨a, x, hR, hB⟩
  · obtain ⟨r, lc', hv, hr1, hr2, hr3, hcl⟩ := h.len
    have hsz := hO.size
    have hrB : ¬ r = B := fun e => h.apart.2.1 (by rw [hv, ← e]; rfl)
    have hll : css.length = l.length := by rw [hq.css]; simp
    have hrow : RowIs B W9.heap.size r l W9 := by
      refine ⟨Nat.le_refl _, hr1, by omega, fun i hi => ⟨?_, fun j u hu => ?_⟩⟩
      · obtain ⟨lo, hi2, k1, k2, k3, k4⟩ := (hq.kids _ (List.getElem_mem hi)).only hO (fun k e => .inl (by omega))
        exact k1.wide (by omega) k1.1 (Nat.le_refl _)
      · have h2 := hcl i j (by omega) u (by simp only [hq.css, List.getElem_map]; exact hu)
        exact (World.cell?_of_block (a := ⟨r, i * 5 + j, none⟩) (hO.block r hr2 hrB)).trans h2
    cases hv
    rw [hll]
    refine ROut.ok hR hOw (o1 ▸ (NodeIs.congr (NodeIs.or hrow (by omega) lc (by omega) [] 0 none 0 0) (fun a b => (hall a b).symm))) (o1 ▸ (hq.good.only hO hgB (fun k hk e => by omega)).mono (by omega)) hq.sg
  · exact ROut.err hR hOw ⟨_, _, _, _, _, _, _, _, _, rfl⟩ (hB.only hO hgB)
end Go.Proofs.YtcjcflmnghhbaaaGreat
