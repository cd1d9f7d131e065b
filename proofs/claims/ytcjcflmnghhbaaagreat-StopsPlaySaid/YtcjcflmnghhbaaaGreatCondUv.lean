/-
  cond.Parse: what it gives up by is caught; of chapter 27.
  Conditions: as each theorem states them.
-/
import Derived.Test.YtcjcflmnghhbaaaGreatCondGw
import Derived.Defers
import Derived.Recover
import Derived.Test.YtcjcflmnghhbaaaGreatCondT
namespace Go.Proofs.YtcjcflmnghhbaaaGreat
open Go.RowKit
set_option linter.unusedVariables false
set_option linter.unusedSimpArgs false
set_option maxHeartbeats 4000000 in
set_option maxRecDepth 100000 in
theorem catch_idle (p q r : Addr) (w : World) :
    CallsD Tryz.prog 30 #[.pointer (some p), .pointer (some q), .pointer (some r)] .returning w fun e u' w' => e = .returned (.tuple #[]) ∧ u' = .returning ∧ w' = w := by
  refine callsD_of_wpS Tryz.func30 rfl fun c₀ cs hu => ?_
  apply wpS_seq
  apply wpS_region
  simp [wpOpsS, go_sem, recoverD, hu, Tryz.ntmps30, Exit.thenS]
  apply wpS_seq
  apply wpS_region
  simp [wpOpsS, go_sem, Exit.thenS]
  refine wpS_cond (t := false) (by simp [Act.eval, Array.replicate]) ?_
  simp only [Bool.false_eq_true, if_false]
  refine wpS_of_wp (wp_skip ?_)
  cases c₀
  simp_all [bodyPostS, results, Tryz.results30]
theorem three_cells {W : World} {bp bq br : Nat} {u1 u2 u3 v1 v2 v3 : Value} (k1 : W.cell? ⟨bp, 0, none⟩ = some u1) (k2 : W.cell? ⟨bq, 0, none⟩ = some u2) (k3 : W.cell? ⟨br, 0, none⟩ = some u3) (n1 : bp ≠ bq) (n2 : bp ≠ br) (n3 : bq ≠ br) :
    (((W.setCell ⟨bp, 0, none⟩ v1).setCell ⟨bq, 0, none⟩ v2).setCell ⟨br, 0, none⟩ v3).cell? ⟨bp, 0, none⟩ = some v1 ∧ (((W.setCell ⟨bp, 0, none⟩ v1).setCell ⟨bq, 0, none⟩ v2).setCell ⟨br, 0, none⟩ v3).cell? ⟨bq, 0, none⟩ = some v2 ∧ (((W.setCell ⟨bp, 0, none⟩ v1).setCell ⟨bq, 0, none⟩ v2).setCell ⟨br, 0, none⟩ v3).cell? ⟨br, 0, none⟩ = some v3 := by
  have e : ∀ {a b : Nat}, a ≠ b → (⟨a, 0, none⟩ : Addr) ≠ ⟨b, 0, none⟩ := fun h e => h (by injection e)
  refine ⟨?_, ?_, ?_⟩
  · rw [World.cell?_setCell_other _ _ _ _ (e (Ne.symm n2)), World.cell?_setCell_other _ _ _ _ (e (Ne.symm n1))]
    exact World.cell?_setCell_same _ _ _ k1
  · rw [World.cell?_setCell_other _ _ _ _ (e (Ne.symm n3))]
    exact World.cell?_setCell_same _ _ _ ((World.cell?_setCell_other _ _ _ _ (e n1)).trans k2)
  · exact World.cell?_setCell_same _ _ _ (((World.cell?_setCell_other _ _ _ _ (e n3)).trans (World.cell?_setCell_other _ _ _ _ (e n2))).trans k3)
set_option maxHeartbeats 4000000 in
set_option maxRecDepth 100000 in
theorem catch_panicking (bp bq br : Nat) (a x : Int) (older : List PanicEntry) (w : World) (vp vq vr : Value) (h1 : w.cell? ⟨bp, 0, none⟩ = some vp) (h2 : w.cell? ⟨bq, 0, none⟩ = some vq) (h3 : w.cell? ⟨br, 0, none⟩ = some vr)
    (z1 : w.frozen? ⟨bp, 0, none⟩ = false) (z2 : w.frozen? ⟨bq, 0, none⟩ = false) (z3 : w.frozen? ⟨br, 0, none⟩ = false) (l1 : bp < w.heap.size) (l2 : bq < w.heap.size) (l3 : br < w.heap.size) (n1 : bp ≠ bq) (n2 : bp ≠ br) (n3 : bq ≠ br) :
    CallsD Tryz.prog 30 #[.pointer (some ⟨bp, 0, none⟩), .pointer (some ⟨bq, 0, none⟩), .pointer (some ⟨br, 0, none⟩)] (.panicking (broken a x :: older)) w fun e u' w' =>
      e = .returned (.tuple #[]) ∧ u' = .panicking ({ broken a x with recovered := true } :: older) ∧ w'.cell? ⟨bp, 0, none⟩ = some (.pointer none) ∧ w'.cell? ⟨bq, 0, none⟩ = some (.int .i64 a) ∧ w'.cell? ⟨br, 0, none⟩ = some (.int .i64 x) ∧ Only (fun k => k = bp ∨ k = bq ∨ k = br) w w' := by
  refine callsD_of_wpS Tryz.func30 rfl fun c₀ cs hu => ?_
  unfold broken at hu ⊢
  apply wpS_seq
  apply wpS_region
  simp [wpOpsS, go_sem, recoverD, hu, Tryz.ntmps30, Exit.thenS]
  apply wpS_seq
  apply wpS_region
  simp [wpOpsS, go_sem, Exit.thenS]
  refine wpS_cond (t := true) (by simp [Act.eval, Array.replicate]) ?_
  simp only [if_true]
  refine wpS_of_wp ?_
  have hta : ∀ W, (Instr.typeAssert (.iface 88 (.agg #[.int .i64 a, .int .i64 x])) 20 88 true).run Tryz.prog W = .ok (.tuple #[.agg #[.int .i64 a, .int .i64 x], .bool true]) W := fun _ => by kernel_rfl
  show Code.wp _ _ _ { tmps := #[.pointer (some ⟨bp, 0, none⟩), .pointer (some ⟨bq, 0, none⟩), .pointer (some ⟨br, 0, none⟩), .iface 88 (.agg #[.int .i64 a, .int .i64 x]), undef, undef, .iface 88 (.agg #[.int .i64 a, .int .i64 x]), .iface 88 (.agg #[.int .i64 a, .int .i64 x]), .bool true, undef, undef, undef, undef, undef, undef, undef, undef, undef, undef, undef, undef], defers := [] } _
  go_upto_region 5 with fail
  obtain ⟨W2, hW2⟩ : ∃ W2, w.alloc (.cells #[.int .i64 a, .int .i64 x] 88) = W2 := ⟨_, rfl⟩
  have hb2 : Below w.heap.size w W2 := hW2 ▸ bl_alloc (Below.refl _ _) _
  have hn : Blk W2 w.heap.size 88 [.int .i64 a, .int .i64 x] := hW2 ▸ Blk.new w _ _
  rw [hW2]
  have k1 := (hb2.cell (p := ⟨bp, 0, none⟩) l1).trans h1
  have k2 := (hb2.cell (p := ⟨bq, 0, none⟩) l2).trans h2
  have k3 := (hb2.cell (p := ⟨br, 0, none⟩) l3).trans h3
  have y1 := (hb2.frozen (p := ⟨bp, 0, none⟩) l1).trans z1
  have y2 := (hb2.frozen (p := ⟨bq, 0, none⟩) l2).trans z2
  have y3 := (hb2.frozen (p := ⟨br, 0, none⟩) l3).trans z3
  have m0 : W2.cell? ⟨w.heap.size, 0, none⟩ = some (.int .i64 a) := hn.cell 0
  have m1 : W2.cell? ⟨w.heap.size, 1, none⟩ = some (.int .i64 x) := hn.cell 1
  have d1 : bp ≠ w.heap.size := by omega
  have d2 : bq ≠ w.heap.size := by omega
  have d3 : br ≠ w.heap.size := by omega
  have d1' : w.heap.size ≠ bp := by omega
  have d2' : w.heap.size ≠ bq := by omega
  have d3' : w.heap.size ≠ br := by omega
  have n1' : bq ≠ bp := by omega
  have n2' : br ≠ bp := by omega
  have n3' : br ≠ bq := by omega
  obtain ⟨gn, hgn⟩ : ∃ gn, w.heap.size = gn := ⟨_, rfl⟩
  have only_of := Lib.hid (Only.of_below hb2 : Only (fun k => k = bp ∨ k = bq ∨ k = br) w W2)
  rw [hgn] at m0 m1 d1 d2 d3 d1' d2' d3' ⊢
  replace hgn := Lib.hid hgn
  clear h1 h2 h3 z1 z2 z3 hW2 hb2 hn
  go_region_with (fail)
  all_goals
    obtain ⟨q1, q2, q3⟩ := three_cells (v1 := .pointer none) (v2 := .int .i64 a) (v3 := .int .i64 x) k1 k2 k3 n1 n2 n3
    exact ⟨rfl, _, rfl, _, results_none rfl _ _ _, rfl, rfl, q1, q2, q3, (((only_of.out.setCell (p := ⟨bp, 0, none⟩) (.inl rfl) _).setCell (p := ⟨bq, 0, none⟩) (.inr (.inl rfl)) _).setCell (p := ⟨br, 0, none⟩) (.inr (.inr rfl)) _).drewN _⟩
end Go.Proofs.YtcjcflmnghhbaaaGreat
/-
  cond.Parse; of chapter 27.
  Conditions: as each theorem states them.
-/
namespace Go.Proofs.YtcjcflmnghhbaaaGreat
open Go.RowKit
set_option linter.unusedVariables false
set_option linter.unusedSimpArgs false
open CM (Sv Pc Ps)
/-- what is caught is answered -/
theorem caught {R : Ending → World → Prop} {a x : Int} {b2 b3 b4 : Nat} {tmps : Array Value} {W : World} {vp vq vr : Value} (t2 : tmps[2]? = some (.pointer (some ⟨b2, 0, none⟩))) (t3 : tmps[3]? = some (.pointer (some ⟨b3, 0, none⟩))) (t4 : tmps[4]? = some (.pointer (some ⟨b4, 0, none⟩)))
    (h1 : W.cell? ⟨b2, 0, none⟩ = some vp) (h2 : W.cell? ⟨b3, 0, none⟩ = some vq) (h3 : W.cell? ⟨b4, 0, none⟩ = some vr)
    (z1 : W.frozen? ⟨b2, 0, none⟩ = false) (z2 : W.frozen? ⟨b3, 0, none⟩ = false) (z3 : W.frozen? ⟨b4, 0, none⟩ = false) (l1 : b2 < W.heap.size) (l2 : b3 < W.heap.size) (l3 : b4 < W.heap.size) (n1 : b2 ≠ b3) (n2 : b2 ≠ b4) (n3 : b3 ≠ b4)
    (hR : ∀ w', Only (fun k => k = b2 ∨ k = b3 ∨ k = b4) W w' → R (.returned (.tuple #[.pointer none, .int .i64 a, .int .i64 x])) w') :
    Leaves Tryz.prog Tryz.f24 tmps R [{ target := .fn (.func 30) #[.pointer (some ⟨b2, 0, none⟩), .pointer (some ⟨b3, 0, none⟩), .pointer (some ⟨b4, 0, none⟩)], args := #[] }] (.panicking [broken a x]) W := by
  refine leaves_cons (f := 30) (args := #[.pointer (some ⟨b2, 0, none⟩), .pointer (some ⟨b3, 0, none⟩), .pointer (some ⟨b4, 0, none⟩)]) (by simp) (by simp [go_sem]) ?_
  refine (catch_panicking b2 b3 b4 a x [] W vp vq vr h1 h2 h3 z1 z2 z3 l1 l2 l3 n1 n2 n3).mono ?_
  rintro e u' w' ⟨rfl, rfl, q1, q2, q3, ho⟩
  refine ⟨.tuple #[.pointer none, .int .i64 a, .int .i64 x], ?_, hR w' ho⟩
  simp [results, Tryz.results24, go_sem, t2, t3, t4, q1, q2, q3]
/-- what is returned, behind the deferred call -/
theorem left {R : Ending → World → Prop} {b2 b3 b4 : Nat} {tmps : Array Value} {W : World} {vp vq vr : Value} (t2 : tmps[2]? = some (.pointer (some ⟨b2, 0, none⟩))) (t3 : tmps[3]? = some (.pointer (some ⟨b3, 0, none⟩))) (t4 : tmps[4]? = some (.pointer (some ⟨b4, 0, none⟩)))
    (h1 : W.cell? ⟨b2, 0, none⟩ = some vp) (h2 : W.cell? ⟨b3, 0, none⟩ = some vq) (h3 : W.cell? ⟨b4, 0, none⟩ = some vr) (hR : R (.returned (.tuple #[vp, vq, vr])) W) :
    Leaves Tryz.prog Tryz.f24 tmps R [{ target := .fn (.func 30) #[.pointer (some ⟨b2, 0, none⟩), .pointer (some ⟨b3, 0, none⟩), .pointer (some ⟨b4, 0, none⟩)], args := #[] }] .returning W := by
  refine leaves_cons (f := 30) (args := #[.pointer (some ⟨b2, 0, none⟩), .pointer (some ⟨b3, 0, none⟩), .pointer (some ⟨b4, 0, none⟩)]) (by simp) (by simp [go_sem]) ?_
  refine (catch_idle ⟨b2, 0, none⟩ ⟨b3, 0, none⟩ ⟨b4, 0, none⟩ W).mono ?_
  rintro e u' w' ⟨rfl, rfl, rfl⟩
  refine ⟨.tuple #[vp, vq, vr], ?_, hR⟩
  simp [results, Tryz.results24, go_sem, t2, t3, t4, h1, h2, h3]
/-- a condition in memory -/
def CondIs (W : World) (c : Nat) (s : List UInt8) (phi : CM.M) : Prop := ∃ g h, Blk W c 99 [h, strV s] ∧ HoldsIs g phi h W ∧ g < c
/-- and its parser is no elder than a block -/
def CondN (n : Nat) (W : World) (c : Nat) (s : List UInt8) (phi : CM.M) : Prop := ∃ g h, Blk W c 99 [h, strV s] ∧ HoldsIs g phi h W ∧ g < c ∧ n ≤ g
/-- what Parse answers -/
def ParseIn (R : Except CM.Er CM.M) (s : List UInt8) (w : World) (e : Ending) (w' : World) : Prop :=
  match R with
  | .error (a, x) => e = .returned (.tuple #[.pointer none, .int .i64 (a : Int), .int .i64 x]) ∧ Below w.heap.size w w'
  | .ok phi => ∃ c, e = .returned (.tuple #[.pointer (some ⟨c, 0, none⟩), .int .i64 0, .int .i64 0]) ∧ CondN w.heap.size w' c s phi ∧ w.heap.size ≤ c ∧ Below w.heap.size w w'
theorem pfail_any {s : List UInt8} {p : Ps} {w : World} {g : Nat} (h : PsAt w g s p) : Calls Tryz.prog 33 #[.pointer (some ⟨g, 0, none⟩)] w fun e w' => e = .panicked [broken (p.pc.at_ : Int) 9] ∧ w = w' := by
  have c3 := h.facts.2.2.2.1
  have hfl := Lib.hid (fun W => fail_any (p.pc.at_ : Int) 9 W)
  clear h
  go_enter Tryz.func33, Tryz.ntmps33
  go_wp2_with (go_at_call 46; refine (hfl.out _).mono ?_; rintro e w5 ⟨rfl, hw5⟩; subst hw5)
  all_goals exact ⟨rfl, rfl, rfl⟩
theorem oly_only {g : Nat} {w w' : World} {b : Nat} (h : Oly g w w') (hb : b < w.heap.size) (hn : b ≠ g) : w'.heap[b]? = w.heap[b]? := h.block b hb hn
theorem ParseIn.err {R : Except CM.Er CM.M} {s : List UInt8} {w w' : World} {a : Nat} {x : Int} (h : R = .error (a, x)) (hb : Below w.heap.size w w') : ParseIn R s w (.returned (.tuple #[.pointer none, .int .i64 (a : Int), .int .i64 x])) w' := by
  subst h; exact ⟨rfl, hb⟩
set_option maxHeartbeats 4000000 in
set_option maxRecDepth 100000 in
theorem cparse_long (s : List UInt8) (w : World) (hlen : 4096 < s.length) : Calls Tryz.prog 24 #[strV s] w (ParseIn (CM.parseS s) s w) := by
  have hS : CM.parseS s = .error (0, 8) := by unfold CM.parseS; rw [if_pos hlen]
  have q0 : decide ((4096 : Int) < s.length) = true := by rw [decide_eq_true_eq]; omega
  clear hlen
  replace hS := Lib.hid hS
  go_enter_defers Tryz.func24, Tryz.ntmps24
  go_wp2_with fail
  have b1 := ((Blk.new w 73 [.pointer none]).alloc (.cells #[.int .i64 0] 3)).alloc (.cells #[.int .i64 8] 30)
  have b2 := (Blk.new (w.alloc (.cells #[.pointer none] 73)) 3 [.int .i64 0]).alloc (.cells #[.int .i64 8] 30)
  have b3 := Blk.new ((w.alloc (.cells #[.pointer none] 73)).alloc (.cells #[.int .i64 0] 3)) 30 [.int .i64 8]
  have hb : Below w.heap.size w (((w.alloc (.cells #[.pointer none] 73)).alloc (.cells #[.int .i64 0] 3)).alloc (.cells #[.int .i64 8] 30)) := bl_alloc (bl_alloc (bl_alloc (Below.refl _ _) _) _) _
  simp only [size_alloc] at b2 b3
  have c1 := b1.cell 0
  have c2 := b2.cell 0
  have c3 := b3.cell 0
  simp only [List.getElem?_cons_zero] at c1 c2 c3
  generalize (((w.alloc (.cells #[.pointer none] 73)).alloc (.cells #[.int .i64 0] 3)).alloc (.cells #[.int .i64 8] 30)) = Y at *
  refine ⟨.tuple #[.pointer none, .int .i64 0, .int .i64 8], ?_, ParseIn.err hS.out hb⟩
  simp [results, Tryz.results24, go_sem, c1, c2, c3]
/-- behind the three results' variables and the parser -/
structure Fine (s : List UInt8) (w W : World) : Prop where
  c2 : W.cell? ⟨w.heap.size, 0, none⟩ = some (.pointer none)
  c3 : W.cell? ⟨w.heap.size + 1, 0, none⟩ = some (.int .i64 0)
  c4 : W.cell? ⟨w.heap.size + 1 + 1, 0, none⟩ = some (.int .i64 0)
  z2 : W.frozen? ⟨w.heap.size, 0, none⟩ = false
  z3 : W.frozen? ⟨w.heap.size + 1, 0, none⟩ = false
  z4 : W.frozen? ⟨w.heap.size + 1 + 1, 0, none⟩ = false
  sz : w.heap.size + 3 < W.heap.size
  below : Below w.heap.size w W
theorem Fine.later {s : List UInt8} {w W W' : World} (h : Fine s w W) (ho : Oly (w.heap.size + 3) W W') : Fine s w W' := by
  have hs := h.sz
  have e : ∀ b, b < w.heap.size + 3 → W'.heap[b]? = W.heap[b]? := fun b hb => ho.block b (by omega) (by omega)
  exact ⟨(World.cell?_of_block (e _ (by simp only; omega))).trans h.c2, (World.cell?_of_block (e _ (by simp only; omega))).trans h.c3, (World.cell?_of_block (e _ (by simp only; omega))).trans h.c4, (World.frozen?_of_block (e _ (by simp only; omega))).trans h.z2, (World.frozen?_of_block (e _ (by simp only; omega))).trans h.z3, (World.frozen?_of_block (e _ (by simp only; omega))).trans h.z4,
    Nat.lt_of_lt_of_le hs ho.size, h.below.trans ⟨ho.os, ho.tape, ho.output, ho.size, fun k hk => e k (by omega)⟩⟩
theorem Fine.caught {R : Except CM.Er CM.M} {s : List UInt8} {a : Nat} {x : Int} {w W : World} {tmps : Array Value} (h : Fine s w W) (t2 : tmps[2]? = some (.pointer (some ⟨w.heap.size, 0, none⟩))) (t3 : tmps[3]? = some (.pointer (some ⟨w.heap.size + 1, 0, none⟩))) (t4 : tmps[4]? = some (.pointer (some ⟨w.heap.size + 1 + 1, 0, none⟩))) (hS : R = .error (a, x)) :
    Leaves Tryz.prog Tryz.f24 tmps (ParseIn R s w) [{ target := .fn (.func 30) #[.pointer (some ⟨w.heap.size, 0, none⟩), .pointer (some ⟨w.heap.size + 1, 0, none⟩), .pointer (some ⟨w.heap.size + 1 + 1, 0, none⟩)], args := #[] }] (.panicking [broken (a : Int) x]) W := by
  have hs := h.sz
  exact Go.Proofs.YtcjcflmnghhbaaaGreat.caught t2 t3 t4 h.c2 h.c3 h.c4 h.z2 h.z3 h.z4 (by omega) (by omega) (by omega) (by omega) (by omega) (by omega) (fun w' ho => ParseIn.err hS (h.below.trans ⟨ho.os, ho.tape, ho.output, ho.size, fun k hk => ho.block k (by omega) (by omega)⟩))
set_option maxHeartbeats 4000000 in
set_option maxRecDepth 100000 in
theorem cparse_short (s : List UInt8) (w : World) (hlen : ¬ 4096 < s.length) : Calls Tryz.prog 24 #[strV s] w (ParseIn (CM.parseS s) s w) := by
  have hmf : ∀ (fn : Fn) (first cap : Array Value) (w : World), (Instr.makeFunc fn first cap).run Tryz.prog w = .ok (.func fn first cap) w := fun _ _ _ _ => rfl
  have q0 : decide ((4096 : Int) < s.length) = false := by rw [decide_eq_false_iff_not]; omega
  obtain ⟨p0, hp0⟩ : ∃ p0 : Ps, p0 = ⟨⟨0, 0, 0, []⟩, 0, 0⟩ := ⟨_, rfl⟩
  obtain ⟨W2, hW2⟩ : ∃ W2, (((w.alloc (.cells #[.pointer none] 73)).alloc (.cells #[.int .i64 0] 3)).alloc (.cells #[.int .i64 0] 30)).alloc (.cells #[.string ⟨s.toArray⟩, .int .i64 0, .int .i64 0, .int .i64 0, .int .i64 0, .string ⟨#[]⟩, .int .i64 0] 94) = W2 := ⟨_, rfl⟩
  have hP0 : PsAt W2 (w.heap.size + 3) s p0 := by
    subst hp0
    rw [← hW2, show w.heap.size + 3 = (((w.alloc (.cells #[.pointer none] 73)).alloc (.cells #[.int .i64 0] 3)).alloc (.cells #[.int .i64 0] 30)).heap.size by simp]
    exact Blk.new _ _ _
  have hFn : Fine s w W2 := by
    have b1 := (((Blk.new w 73 [.pointer none]).alloc (.cells #[.int .i64 0] 3)).alloc (.cells #[.int .i64 0] 30)).alloc (.cells #[.string ⟨s.toArray⟩, .int .i64 0, .int .i64 0, .int .i64 0, .int .i64 0, .string ⟨#[]⟩, .int .i64 0] 94)
    have b2 := ((Blk.new (w.alloc (.cells #[.pointer none] 73)) 3 [.int .i64 0]).alloc (.cells #[.int .i64 0] 30)).alloc (.cells #[.string ⟨s.toArray⟩, .int .i64 0, .int .i64 0, .int .i64 0, .int .i64 0, .string ⟨#[]⟩, .int .i64 0] 94)
    have b3 := (Blk.new ((w.alloc (.cells #[.pointer none] 73)).alloc (.cells #[.int .i64 0] 3)) 30 [.int .i64 0]).alloc (.cells #[.string ⟨s.toArray⟩, .int .i64 0, .int .i64 0, .int .i64 0, .int .i64 0, .string ⟨#[]⟩, .int .i64 0] 94)
    simp only [size_alloc] at b2 b3
    rw [← hW2]
    exact ⟨b1.cell 0, b2.cell 0, b3.cell 0, b1.free 0, b2.free 0, b3.free 0, by simp, bl_alloc (bl_alloc (bl_alloc (bl_alloc (Below.refl _ _) _) _) _) _⟩
  have hF0 : Fit s p0 W2 (w.heap.size + 3) := ⟨by omega, by rw [hp0]; simp, hP0⟩
  have hnS : p0.next s = match CM.nextS s 0 with | .error e => .error e | .ok (x, b) => .ok ⟨x, b, 0⟩ := by rw [hp0]; rfl
  have hk0 : p0.deep ≤ 20 := by rw [hp0]; simp
  clear hp0 hP0
  replace hW2 := Lib.hid hW2
  replace hFn := Lib.hid hFn
  go_enter_defers Tryz.func24, Tryz.ntmps24
  go_upto_region 5 with fail
  rw [hW2.out]
  clear hW2
  have hlen2 : s.length ≤ 4096 := by omega
  cases hn : CM.nextS s 0 with
  | error e =>
    obtain ⟨a, x⟩ := e
    rw [hn] at hnS
    have hS : CM.parseS s = .error (a, x) := by unfold CM.parseS; rw [if_neg hlen, hn]
    have hnx := Lib.hid (next_err hF0 hnS)
    replace hS := Lib.hid hS
    clear hn hnS hF0
    go_wp2_with (go_at_call 31; refine hnx.out.mono ?_; rintro e w5 ⟨rfl, hO5⟩)
    exact (hFn.out.later hO5).caught rfl rfl rfl hS.out
  | ok xb =>
    obtain ⟨x, b⟩ := xb
    rw [hn] at hnS
    simp only at hnS
    have hnx := Lib.hid (next_ok hF0 hnS)
    obtain ⟨hqo, hqd, _⟩ := CM.next_mu hF0.le hk0 hnS
    have hmu : CM.mu s ⟨x, b, 0⟩ ≤ s.length + 1 := by unfold CM.mu; split <;> omega
    have hei := fun w5 (hP : PsAt w5 (w.heap.size + 3) s ⟨x, b, 0⟩) => (parser_ok s (CM.fuel s) (CM.fuel s) (Nat.le_refl _)).2.2 ⟨x, b, 0⟩ w5 (w.heap.size + 3) ⟨hlen2, hqo.le, hP⟩ hqo (by unfold CM.fuel; omega)
    clear hF0 hnS hqd hmu
    cases hr : CM.run s (CM.fuel s) .either ⟨x, b, 0⟩ with
    | error e =>
      obtain ⟨a, y⟩ := e
      have hS : CM.parseS s = .error (a, y) := by unfold CM.parseS; rw [if_neg hlen, hn]; simp only; rw [hr]
      have hei2 := Lib.hid (fun w5 (hP : PsAt w5 (w.heap.size + 3) s ⟨x, b, 0⟩) => Out.no (hei w5 hP) hr)
      replace hS := Lib.hid hS
      clear hn hr hei hqo hlen2
      go_wp2_with (first
        | (go_at_call 31; refine hnx.out.mono ?_; rintro e w5 ⟨rfl, hP5, hO5⟩)
        | (go_at_call 32; refine (hei2.out _ hP5).mono ?_; rintro e w6 ⟨rfl, hO6⟩))
      exact (hFn.out.later (Only.trans hO5 hO6)).caught rfl rfl rfl hS.out
    | ok fr =>
      obtain ⟨phi, r⟩ := fr
      have hei2 := Lib.hid (fun w5 (hP : PsAt w5 (w.heap.size + 3) s ⟨x, b, 0⟩) => Out.yes (hei w5 hP) hr)
      by_cases hk : r.pc.kind = 0
      · have hS : CM.parseS s = .ok phi := by unfold CM.parseS; rw [if_neg hlen, hn]; simp only; rw [hr]; simp only; rw [if_pos hk]
        replace hS := Lib.hid hS
        have q1 : ((r.pc.kind : Int) != 0) = false := by rw [hk]; rfl
        clear hn hr hei hqo hlen2 hk
        go_wp2_with (first
          | (go_at_call 31; refine hnx.out.mono ?_; rintro e w5 ⟨rfl, hP5, hO5⟩)
          | (go_at_call 32; refine (hei2.out _ hP5).mono ?_; rintro e w6 ⟨v, rfl, hH, hP6, hO6⟩; obtain ⟨ff, caps, rfl⟩ := hH.shape; have d2 : w6.cell? ⟨w.heap.size + 3, 2, none⟩ = some (.int .i64 (r.pc.kind : Int)) := hP6.cell 2; have hl6 := hP6.lt; have hFn6 := hFn.out.later (Only.trans hO5 hO6); obtain ⟨x2, x3, x4, y2, y3, y4, ys, yb⟩ := hFn6; have g2 : w.heap.size < w6.heap.size := (by omega); have g3 : w.heap.size + 1 < w6.heap.size := (by omega); have g4 : w.heap.size + 1 + 1 < w6.heap.size := (by omega); replace hH := Lib.hid hH; replace hP6 := Lib.hid hP6; replace yb := Lib.hid yb))
        obtain ⟨t2, t3, t4⟩ := three_cells (v1 := .pointer (some ⟨w6.heap.size, 0, none⟩)) (v2 := .int .i64 0) (v3 := .int .i64 0) x2 x3 x4 (by omega) (by omega) (by omega)
        have ho : OlyH (w.heap.size + 3) w6 (((w6.setCell ⟨w.heap.size, 0, none⟩ (.pointer (some ⟨w6.heap.size, 0, none⟩))).setCell ⟨w.heap.size + 1, 0, none⟩ (.int .i64 0)).setCell ⟨w.heap.size + 1 + 1, 0, none⟩ (.int .i64 0)) :=
          (((Only.refl _ w6).setCell (p := ⟨w.heap.size, 0, none⟩) (by simp only; omega) _).setCell (p := ⟨w.heap.size + 1, 0, none⟩) (by simp only; omega) _).setCell (p := ⟨w.heap.size + 1 + 1, 0, none⟩) (by simp only; omega) _
        have hbY : Below w.heap.size w (((w6.setCell ⟨w.heap.size, 0, none⟩ (.pointer (some ⟨w6.heap.size, 0, none⟩))).setCell ⟨w.heap.size + 1, 0, none⟩ (.int .i64 0)).setCell ⟨w.heap.size + 1 + 1, 0, none⟩ (.int .i64 0)) :=
          bl_setCell (bl_setCell (bl_setCell yb.out (Nat.le_refl _) _) (by simp only; omega) _) (by simp only; omega) _
        have hsY : (((w6.setCell ⟨w.heap.size, 0, none⟩ (.pointer (some ⟨w6.heap.size, 0, none⟩))).setCell ⟨w.heap.size + 1, 0, none⟩ (.int .i64 0)).setCell ⟨w.heap.size + 1 + 1, 0, none⟩ (.int .i64 0)).heap.size = w6.heap.size := by simp [World.setCell]
        generalize (((w6.setCell ⟨w.heap.size, 0, none⟩ (.pointer (some ⟨w6.heap.size, 0, none⟩))).setCell ⟨w.heap.size + 1, 0, none⟩ (.int .i64 0)).setCell ⟨w.heap.size + 1 + 1, 0, none⟩ (.int .i64 0)) = Y at *
        have hY2 := bl_alloc (Below.refl Y.heap.size Y) (.cells #[.func (.func ff) #[] caps, strV s] 99)
        have hcY : Blk (Y.alloc (.cells #[.func (.func ff) #[] caps, strV s] 99)) w6.heap.size 99 [.func (.func ff) #[] caps, strV s] := by
          rw [← hsY]; exact Blk.new Y _ _
        refine left rfl rfl rfl ((hY2.cell (p := ⟨w.heap.size, 0, none⟩) (by simp only; omega)).trans t2) ((hY2.cell (p := ⟨w.heap.size + 1, 0, none⟩) (by simp only; omega)).trans t3) ((hY2.cell (p := ⟨w.heap.size + 1 + 1, 0, none⟩) (by simp only; omega)).trans t4) ?_
        unfold ParseIn
        rw [hS.out]
        exact ⟨w6.heap.size, rfl, ⟨w.heap.size + 3, _, hcY, (hH.out.lift ho).later (Only.alloc (Only.refl _ Y) _), by omega, by omega⟩, by omega, bl_alloc hbY _⟩
      · have hS : CM.parseS s = .error (r.pc.at_, 9) := by unfold CM.parseS; rw [if_neg hlen, hn]; simp only; rw [hr]; simp only; rw [if_neg hk]
        replace hS := Lib.hid hS
        have q1 : ((r.pc.kind : Int) != 0) = true := by simp; omega
        clear hn hr hei hqo hlen2 hk
        go_wp2_with (first
          | (go_at_call 31; refine hnx.out.mono ?_; rintro e w5 ⟨rfl, hP5, hO5⟩)
          | (go_at_call 32; refine (hei2.out _ hP5).mono ?_; rintro e w6 ⟨v, rfl, hH, hP6, hO6⟩; have d2 : w6.cell? ⟨w.heap.size + 3, 2, none⟩ = some (.int .i64 (r.pc.kind : Int)) := hP6.cell 2; have hl6 := hP6.lt; have hpf := Lib.hid (pfail_any hP6); replace hH := Lib.hid hH; replace hP6 := Lib.hid hP6)
          | (go_at_call 33; refine hpf.out.mono ?_; rintro e w7 ⟨rfl, hw7⟩; subst hw7))
        exact (hFn.out.later (Only.trans hO5 hO6)).caught rfl rfl rfl hS.out
theorem cparse_in (s : List UInt8) (w : World) : Calls Tryz.prog 24 #[strV s] w (ParseIn (CM.parseS s) s w) := by
  by_cases h : 4096 < s.length
  · exact cparse_long s w h
  · exact cparse_short s w h

/-- what Parse answers -/
def ParseIs (R : Except CM.Er CM.M) (s : List UInt8) (w : World) (e : Ending) (w' : World) : Prop :=
  match R with
  | .error (a, x) => e = .returned (.tuple #[.pointer none, .int .i64 (a : Int), .int .i64 x]) ∧ Below w.heap.size w w'
  | .ok phi => ∃ c, e = .returned (.tuple #[.pointer (some ⟨c, 0, none⟩), .int .i64 0, .int .i64 0]) ∧ CondIs w' c s phi ∧ w.heap.size ≤ c ∧ Below w.heap.size w w'
theorem ParseIn.is {R : Except CM.Er CM.M} {s : List UInt8} {w : World} {e : Ending} {w' : World} (h : ParseIn R s w e w') : ParseIs R s w e w' := by
  unfold ParseIn at h
  unfold ParseIs
  cases R with
  | error x => exact h
  | ok phi =>
    obtain ⟨c, h1, ⟨g, v, h2, h3, h4, _⟩, h5, h6⟩ := h
    exact ⟨c, h1, ⟨g, v, h2, h3, h4⟩, h5, h6⟩
theorem cparse_any (s : List UInt8) (w : World) : Calls Tryz.prog 24 #[strV s] w (ParseIs (CM.parseS s) s w) := (cparse_in s w).mono fun _ _ h => h.is
end Go.Proofs.YtcjcflmnghhbaaaGreat
