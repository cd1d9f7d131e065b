/-
  The contract of Parse, of chapter 29: its walk.
  Conditions: as each theorem states them.
-/
import Derived.Test.YtjfpepinmbbnbaaDoorOrd9
import Derived.Test.YtjfpepinmbbnbaaDoorIterH
import Derived.Deep.DeepMust
import Derived.Deep.RegionHeld3
import Derived.StillTailTactics
import Derived.Deep.CutBlock
import Derived.Deep.DeepCutAuto
namespace Go.Proofs.YtjfpepinmbbnbaaDoor
open Go.RowKit Go.Shelf
set_option linter.unusedVariables false
set_option linter.unusedSimpArgs false
attribute [local go_sem] Oper.semAt_some
theorem news_one {w : World} {ad : Addr} {u : Value} (hs : ad.spot = none) (hu : w.cell? ad = some u) : ∀ (j : Nat) (v : Value), [u][j]? = some v → w.cell? (ad.add j) = some v := fun j v hj => by
  match j, hj with
  | 0, hj => simp at hj; subst hj; rw [show ad.add 0 = ad by simp [Addr.add]]; exact hu
theorem one_one {u : Value} (h : u.oneCell' = true) : ∀ v ∈ [u], v.oneCell' = true := fun v hv => by rw [List.mem_singleton] at hv; subst hv; exact h
theorem parse_ret {L : List UInt8} {w X : World} {D : Nat} {k n m c : Int} {s : List UInt8} {t0 t1 : Value} {rest : List Value} (hD : w.heap.size < D) (hp : OM.parse L = (⟨k, n, m, s⟩, c)) (gO : Blk X w.heap.size 41 [.int .i64 k, .int .i64 n, .int .i64 m, strV s]) (gB : Below w.heap.size w X) (hK : X.heap[D]? = some (.deferred (some []))) :
    bodyPostM Fence.wide 4 Tryd.prog Tryd.f25 (OrdIs (OM.parse L) w) Exit.ret { tmps := (t0 :: t1 :: .pointer (some ⟨w.heap.size, 0, none⟩) :: .int .i64 c :: rest).toArray, defers := [{ target := Target.collected D, args := #[] }] } X := by
  have gA6 : Blk (X.putObj D (.deferred none)) w.heap.size 41 [.int .i64 k, .int .i64 n, .int .i64 m, strV s] := gO.of_eq (World.putObj_heap_other (by omega))
  have gO6 : Below w.heap.size w (X.putObj D (.deferred none)) := belowK_t gB (belowK_b (w := w) (Nat.le_refl _) X D _ _ (by omega) hK rfl rfl)
  refine ⟨by simp, .inl ⟨_, _, rfl, run_takeDeferred hK, ?_⟩⟩
  obtain ⟨c0, c1, c2, c3⟩ := cells4 gA6
  clear hK
  generalize X.putObj D (.deferred none) = W6 at *
  refine ⟨.tuple #[.agg #[.int .i64 k, .int .i64 n, .int .i64 m, strV s], .int .i64 c], by simp [results, Tryd.results25, go_sem, c0, c1, c2, c3], ?_⟩
  exact OrdIs.mk hp gO6
theorem set4 {X : World} {b : Nat} {t : TypeId} {x y z u : Value} (x' y' z' u' : Value) (h : Blk X b t [x, y, z, u]) : Blk ((((X.setCell ⟨b, 0, none⟩ x').setCell ⟨b, 1, none⟩ y').setCell ⟨b, 2, none⟩ z').setCell ⟨b, 3, none⟩ u') b t [x', y', z', u'] :=
  (((h.set 0 x').set 1 y').set 2 z').set 3 u'
theorem ret4 {L : List UInt8} {w X : World} {D : Nat} {k n m c : Int} {s : List UInt8} {x y z u : Value} {t0 t1 : Value} {rest : List Value} (hD : w.heap.size < D) (hp : OM.parse L = (⟨k, n, m, s⟩, c)) (bO : Blk X w.heap.size 41 [x, y, z, u]) (hO : Below w.heap.size w X) (hK : X.heap[D]? = some (.deferred (some []))) :
    bodyPostM Fence.wide 4 Tryd.prog Tryd.f25 (OrdIs (OM.parse L) w) Exit.ret { tmps := (t0 :: t1 :: .pointer (some ⟨w.heap.size, 0, none⟩) :: .int .i64 c :: rest).toArray, defers := [{ target := Target.collected D, args := #[] }] }
      ((((X.setCell ⟨w.heap.size, 0, none⟩ (.int .i64 k)).setCell ⟨w.heap.size, 1, none⟩ (.int .i64 n)).setCell ⟨w.heap.size, 2, none⟩ (.int .i64 m)).setCell ⟨w.heap.size, 3, none⟩ (strV s)) := by
  refine parse_ret hD hp (set4 _ _ _ _ bO) ((((hO.setCell (p := ⟨w.heap.size, 0, none⟩) (by simp) _).setCell (p := ⟨w.heap.size, 1, none⟩) (by simp) _).setCell (p := ⟨w.heap.size, 2, none⟩) (by simp) _).setCell (p := ⟨w.heap.size, 3, none⟩) (by simp) _) ?_
  rw [Below.heap_setCell _ _ _ _ (show D ≠ w.heap.size by omega), Below.heap_setCell _ _ _ _ (show D ≠ w.heap.size by omega), Below.heap_setCell _ _ _ _ (show D ≠ w.heap.size by omega), Below.heap_setCell _ _ _ _ (show D ≠ w.heap.size by omega)]
  exact hK
/-- what stands behind the way through a line's first word -/
def DoneR (L : List UInt8) (w : World) (H D : Nat) (s9 : Value) (wx : World) : Prop := ∃ k n m s cc, OM.parse L = OM.fin (⟨k, n, m, s⟩, cc) ∧ s9 = .int .i64 cc ∧ Blk wx H 41 [.int .i64 k, .int .i64 n, .int .i64 m, strV s] ∧
  (∃ x y z u, Blk wx w.heap.size 41 [x, y, z, u]) ∧ Below w.heap.size w wx ∧ wx.heap[D]? = some (.deferred (some []))
/-- what is looked up: the rule of a word, or none -/
def RuleR (x : List UInt8) (X : World) (s10 s11 : Value) (wx : World) : Prop := ∃ b k a1 a2 a3, s10 = .pointer (some ⟨b, 0, none⟩) ∧ X.heap.size ≤ b ∧ Blk wx b 90 [.int .i64 k, .bool a1, .bool a2, .bool a3] ∧ Below X.heap.size X wx ∧
  ((OM.ruleOf x = some (k, a1, a2, a3) ∧ s11 = .bool true) ∨ (OM.ruleOf x = none ∧ s11 = .bool false))
theorem ruleR1 (x : List UInt8) (X : World) {k : Int} {a1 a2 a3 : Bool} {s11 : Value} (h : (OM.ruleOf x = some (k, a1, a2, a3) ∧ s11 = .bool true) ∨ (OM.ruleOf x = none ∧ s11 = .bool false)) :
    RuleR x X (.pointer (some ⟨X.heap.size + 1, 0, none⟩)) s11 ((X.alloc (.map (esN 12) 12)).alloc (ruleO k a1 a2 a3)).drew := by
  refine ⟨X.heap.size + 1, k, a1, a2, a3, rfl, by omega, ?_, bl_drew (bl_alloc (bl_alloc (Below.refl _ _) _) _), h⟩
  have := Blk.new (X.alloc (.map (esN 12) 12)) 90 [.int .i64 k, .bool a1, .bool a2, .bool a3]
  rw [World.size_alloc] at this
  exact this.drew
theorem ruleR2 (x : List UInt8) (X : World) {k : Int} {a1 a2 a3 : Bool} {s11 : Value} (h : (OM.ruleOf x = some (k, a1, a2, a3) ∧ s11 = .bool true) ∨ (OM.ruleOf x = none ∧ s11 = .bool false)) :
    RuleR x X (.pointer (some ⟨X.heap.size, 0, none⟩)) s11 ((X.alloc (ruleO k a1 a2 a3)).alloc (.map (esN 12) 12)).drew :=
  ⟨X.heap.size, k, a1, a2, a3, rfl, by omega, ((Blk.new X 90 [.int .i64 k, .bool a1, .bool a2, .bool a3]).alloc _).drew, bl_drew (bl_alloc (bl_alloc (Below.refl _ _) _) _), h⟩
theorem set4_cell {H b : Nat} (h : b ≠ H) (Y : World) (o : Nat) (x y z u : Value) : ((((Y.setCell ⟨H, 0, none⟩ x).setCell ⟨H, 1, none⟩ y).setCell ⟨H, 2, none⟩ z).setCell ⟨H, 3, none⟩ u).cell? ⟨b, o, none⟩ = Y.cell? ⟨b, o, none⟩ := by
  simp only [World.cell?]
  rw [Below.heap_setCell _ _ _ _ (show b ≠ H from h), Below.heap_setCell _ _ _ _ (show b ≠ H from h), Below.heap_setCell _ _ _ _ (show b ≠ H from h), Below.heap_setCell _ _ _ _ (show b ≠ H from h)]
theorem done_mk {L : List UInt8} {w X w6 : World} {H D : Nat} {k n m cc : Int} {s : List UInt8} {x y z u : Value} (hp : OM.parse L = OM.fin (⟨k, n, m, s⟩, cc)) (xN : Blk X H 41 [x, y, z, u]) (xO : Blk X w.heap.size 41 [.int .i64 0, .int .i64 0, .int .i64 0, .string ⟨#[]⟩]) (xB : Below w.heap.size w X) (xK : X.heap[D]? = some (.deferred (some []))) (hb : Below X.heap.size X w6) (hH : w.heap.size < H) :
    DoneR L w H D (.int .i64 cc) ((((w6.setCell ⟨H, 0, none⟩ (.int .i64 k)).setCell ⟨H, 1, none⟩ (.int .i64 n)).setCell ⟨H, 2, none⟩ (.int .i64 m)).setCell ⟨H, 3, none⟩ (strV s)) := by
  have hD : D ≠ H := fun e => by
    rw [e, show X.heap[H]? = _ from xN] at xK; cases xK
  have hB := bl_trans xB hb
  have hO := xO.below hb
  have hK := (hb.block D (Array.getElem?_eq_some_iff.1 xK).1).trans xK
  refine ⟨k, n, m, s, cc, hp, rfl, set4 _ _ _ _ (xN.below hb), ⟨_, _, _, _, (((hO.set_other (p := ⟨H, 0, none⟩) (by simp; omega) _).set_other (p := ⟨H, 1, none⟩) (by simp; omega) _).set_other (p := ⟨H, 2, none⟩) (by simp; omega) _).set_other (p := ⟨H, 3, none⟩) (by simp; omega) _⟩, ?_, ?_⟩
  · exact (((hB.setCell (p := ⟨H, 0, none⟩) (by simp; omega) _).setCell (p := ⟨H, 1, none⟩) (by simp; omega) _).setCell (p := ⟨H, 2, none⟩) (by simp; omega) _).setCell (p := ⟨H, 3, none⟩) (by simp; omega) _
  · rw [Below.heap_setCell _ _ _ _ (show D ≠ H from hD), Below.heap_setCell _ _ _ _ (show D ≠ H from hD), Below.heap_setCell _ _ _ _ (show D ≠ H from hD), Below.heap_setCell _ _ _ _ (show D ≠ H from hD)]
    exact hK
attribute [local go_sem ↓] app_hold
set_option maxHeartbeats 4000000 in
set_option maxRecDepth 100000 in
theorem parse_go (L : List UInt8) (hL : L.length ≤ 100000) (w : World) :
    Calls Tryd.prog 25 #[strV L] w (OrdIs (OM.parse L) w) := by
  obtain ⟨B0, b1, b2, b3, sz, hw3⟩ := W3_facts w L
  obtain ⟨V, hV⟩ : ∃ V, W3 w L = V := ⟨_, rfl⟩
  rw [hV] at B0 b1 b2 b3 sz hw3
  have c3 := b3.cell
  replace hV := Lib.hid hV
  refine (callsIn_wide (n := 4)).1 ?_
  refine callsIn_of_wp_marks Tryd.func25 rfl trivial ?_ rfl
  simp only [Tryd.ntmps25, List.size_toArray, List.length_cons, List.length_nil, Nat.reduceAdd, Nat.reduceSub, Array.replicate_succ, Array.replicate_zero, List.push_toArray, List.append_toArray, List.nil_append, List.cons_append]
  refine wpIn_wide.2 ?_
  go_wp2_with (go_at_call 56; refine (words_any _ _).mono ?_; rintro e w' ⟨rfl, rfl⟩)
  change Code.wp _ _ _ _ (W3 w L)
  rw [hV.out]
  refine (wpIn_wide (n := 4)).1 ?_
  refine wpIn_rangeFunc_ownH rfl (show 1 ≤ 4 by omega) (gf := 80) (lb := #[.pointer (some ⟨w.heap.size + 1 + 1 + 1, 0, none⟩)]) rfl trivial (enters_of Tryd.func80 (by kernel_rfl) rfl)
    (wordsStops (w.heap.size + 1 + 1 + 1) L (PK w.heap.size) hL V (by omega) (by unfold PK; omega) c3) only_kt (only_kb (N := V.heap.size) (fun k hk => by unfold PK; omega)) (Below.refl _ _) (fun _ => rfl)
    (fun pre W => WordsI w.heap.size V.heap.size pre W ∧ Only (PK w.heap.size) V W) (fun c pre W => False) ?hI (fun c s A B row h _ _ => h) ?h0
    (fun x a' W => a' = { tmps := #[strV L, undef, .pointer (some ⟨w.heap.size, 0, none⟩), .int .i64 0, .pointer (some ⟨w.heap.size + 1, 0, none⟩), .pointer (some ⟨w.heap.size + 1 + 1, 0, none⟩), .int .i64 (x.1 : Int), strV x.2, undef, undef, undef, undef, strV L, .func (.func 80) #[] #[.pointer (some ⟨w.heap.size + 1 + 1 + 1, 0, none⟩)], .int .i64 (x.1 : Int), strV x.2, undef, undef, undef, undef, undef, undef, undef, undef, undef, undef, undef, undef, undef, undef, undef, undef, undef, undef, undef, undef, undef, undef, undef, undef, undef, undef, undef, undef, undef, undef, undef, undef, undef, undef, undef, undef, undef, undef, undef, undef, undef, undef, undef, undef, undef, undef, undef, undef, undef, undef, undef, undef, undef, undef, undef, undef, undef, undef, undef, undef, undef, undef, undef, undef, undef, undef, undef, undef, undef, undef, undef, undef, undef, undef, undef, undef, undef, undef, undef], defers := [] })
    (fun x a' _ A B row h _ _ => h) ?assign ?body ?done (fun D c pre W _ _ h _ => h.elim)
  case hI =>
    refine OwnFrom.and ?_ (ownFrom_only (fun k hk => by unfold PK; omega))
    rintro s A B row ⟨v1, v2, h1, h2, h3, h4⟩ hg hr
    exact ⟨v1, v2, h1.kept hg (fun e' => by obtain ⟨_, o, ho, hc⟩ := hr _ e'.symm; rw [show A.heap[w.heap.size + 1]? = _ from h1] at ho; cases ho; cases hc), h2.kept hg (fun e' => by obtain ⟨_, o, ho, hc⟩ := hr _ e'.symm; rw [show A.heap[w.heap.size + 1 + 1]? = _ from h2] at ho; cases ho; cases hc),
      ownsRow_turn h3 hg (fun r e => (hr r e).2), ownsRow_turn h4 hg (fun r e => (hr r e).2)⟩
  case h0 => exact ⟨⟨_, _, b1, b2, World.ownsRow_nil _ _ _ _, World.ownsRow_nil _ _ _ _⟩, Only.refl _ _⟩
  case assign =>
    intro l pre x W K hi hK
    have hi' := Lib.hid hi
    clear hi
    gi_wp2
    exact hK _ _ (KeepsFrom.refl _ _) (Only.refl _ _) hi'.out rfl
  case body =>
    rintro l pre x a' W hl ⟨r, hr⟩ ⟨⟨v1, v2, h1, h2, h3, h4⟩, hon⟩ rfl hlen
    have k1 := h1.cell
    have k2 := h2.cell
    have f1 := h1.frozen
    have f2 := h2.frozen
    replace h3 := Lib.hid h3
    replace h4 := Lib.hid h4
    obtain ⟨i9, hi9, hz91, hz92, hz93⟩ := info_parts infoS_
    obtain ⟨i3, hi3, hz31, hz32, hz33⟩ := info_parts infoI_
    have hln : pre.length ≤ 100000 := by have := wds_len L.length L 0 (Nat.le_refl _); omega
    have m1 : pre.length + 1 ≤ maxLen := by unfold maxLen; omega
    have m2 : (pre.length + 1) * 16 ≤ 140737488355328 := by omega
    have m3 : (pre.length + 1) * 8 ≤ 140737488355328 := by omega
    have hVW : V.heap.size ≤ W.heap.size := hon.size
    have l1 : w.heap.size + 1 < W.heap.size := by omega
    have l2 : w.heap.size + 1 + 1 < W.heap.size := by omega
    have l3 : w.heap.size + 1 < W.heap.size + 1 := by omega
    have l4 : w.heap.size + 1 + 1 < W.heap.size + 1 := by omega
    have l5 : w.heap.size + 1 < W.heap.size + 1 + 1 := by omega
    have l6 : w.heap.size + 1 + 1 < W.heap.size + 1 + 1 := by omega
    clear hw3 b3 b2 b1 B0 c3 hV
    go_light
    gi_wp2
    refine region_till_round (fun X => X.cell? ⟨w.heap.size + 1, 0, none⟩ = some v1 ∧ X.cell? ⟨w.heap.size + 1 + 1, 0, none⟩ = some v2) 8 l (by kernel_rfl) (by rfl) ?_
    have hC : W.drew.cell? ⟨w.heap.size + 1, 0, none⟩ = some v1 ∧ W.drew.cell? ⟨w.heap.size + 1 + 1, 0, none⟩ = some v2 := ⟨k1, k2⟩
    refine wpAnyT_take (i := 0) (v := v1) (some 16) rfl (by kernel_rfl) (by kernel_rfl) (by kernel_rfl) (by kernel_rfl) (fun _ _ _ h => absurd h np_panic) [8] (by kernel_rfl) (by kernel_rfl) (by kernel_rfl) (Or.inl ⟨by rfl, ?_⟩) hC ?_
    · intro X hX; obtain ⟨x1, x2⟩ := hX; go_simp
    simp only [Act.put, List.setIfInBounds_toArray, List.set_cons_zero, List.set_cons_succ]
    refine wpAnyT_take (i := 1) (v := strV x.2) (some 17) rfl (by kernel_rfl) (by kernel_rfl) (by kernel_rfl) (by kernel_rfl) (fun _ _ _ h => absurd h np_panic) [8] (by kernel_rfl) (by kernel_rfl) (by kernel_rfl) (Or.inl ⟨by rfl, ?_⟩) hC ?_
    · intro X hX; obtain ⟨x1, x2⟩ := hX; go_simp
    simp only [Act.put, List.setIfInBounds_toArray, List.set_cons_zero, List.set_cons_succ]
    refine wpAnyT_take (i := 4) (v := v2) (some 20) rfl (by kernel_rfl) (by kernel_rfl) (by kernel_rfl) (by kernel_rfl) (fun _ _ _ h => absurd h np_panic) [7, 8] (by kernel_rfl) (by kernel_rfl) (by kernel_rfl) (Or.inl ⟨by rfl, ?_⟩) hC ?_
    · intro X hX; obtain ⟨x1, x2⟩ := hX; go_simp
    simp only [Act.put, List.setIfInBounds_toArray, List.set_cons_zero, List.set_cons_succ]
    refine wpAnyT_take (i := 5) (v := .int .i64 (x.1 : Int)) (some 21) rfl (by kernel_rfl) (by kernel_rfl) (by kernel_rfl) (by kernel_rfl) (fun _ _ _ h => absurd h np_panic) [6, 7, 8] (by kernel_rfl) (by kernel_rfl) (by kernel_rfl) (Or.inl ⟨by rfl, ?_⟩) hC ?_
    · intro X hX; obtain ⟨x1, x2⟩ := hX; go_simp
    simp only [Act.put, List.setIfInBounds_toArray, List.set_cons_zero, List.set_cons_succ]
    have keepC : ∀ X, Below W.heap.size W X → X.cell? ⟨w.heap.size + 1, 0, none⟩ = some v1 ∧ X.cell? ⟨w.heap.size + 1 + 1, 0, none⟩ = some v2 := fun X hb => ⟨(hb.cell (p := ⟨w.heap.size + 1, 0, none⟩) l1).trans k1, (hb.cell (p := ⟨w.heap.size + 1 + 1, 0, none⟩) l2).trans k2⟩
    replace keepC := Lib.hid keepC
    refine wpAnyT_ready (rs := [2, 6]) (by kernel_rfl) (by simp) ?_
    refine AllT.cons rfl (fun K hK => ?_) (AllT.cons rfl (fun K hK => ?_) AllT.nil)
    · go_simp
      refine hK.out _ _ (fun _ => keepC.out _ (by repeat (first | exact Below.refl _ _ | refine bl_drew ?_ | refine bl_alloc ?_ _))) ?_
      clear hK K
      refine wpAnyT_ready (rs := [3, 6]) (by kernel_rfl) (by simp) ?_
      refine AllT.cons rfl (fun K hK => ?_) (AllT.cons rfl (fun K hK => ?_) AllT.nil)
      · refine step_append_lies _ rfl (.tmp 16) (.tmp 18) 68 rfl V.heap.size 9 i9 _ 1 16 Tryd.underlying68 hi9 hz91 hz92 hz93 rfl Nat.zero_lt_one v1 pre.length (wv pre) rfl (ownsRow_below h3.out (by repeat (first | exact Below.refl _ _ | refine bl_drew ?_ | refine bl_alloc ?_ _))) _ 1 1 [strV x.2] rfl rfl (news_one rfl (by first | (simp; done) | (simp; omega))) (one_one (by simp [strV, Value.oneCell'])) Nat.zero_lt_one m1 m2 (by first | omega | (simp; omega)) _ rfl ?_
        intro gA cA wA oA qA _ _
        obtain ⟨rA, uA⟩ := app_step ((Rg.refl v1.ownBlock v2.ownBlock W).ofBelow (by repeat (first | exact Below.refl _ _ | refine bl_drew ?_ | refine bl_alloc ?_ _))) (ownsRow_below h3.out (by repeat (first | exact Below.refl _ _ | refine bl_drew ?_ | refine bl_alloc ?_ _))) (ownsRow_below h4.out (by repeat (first | exact Below.refl _ _ | refine bl_drew ?_ | refine bl_alloc ?_ _))) (by decide) (.inl rfl) qA
        have nA := Lib.hid (fun b (h0 : W.heap.size ≤ b) hb => qA.cell_far ⟨b, 0, none⟩ hb (own_lt h3.out b h0))
        have sA : W.heap.size ≤ wA.heap.size := Rg.size rA
        have bA1 := Rg.box rA h3.out h4.out h1 (by decide) (by decide)
        have bA2 := Rg.box rA h3.out h4.out h2 (by decide) (by decide)
        refine hK.out _ _ (fun _ => ⟨bA1.cell, bA2.cell⟩) ?_
        clear hK K
        have keepA : ∀ X, Below wA.heap.size wA X → X.cell? ⟨w.heap.size + 1, 0, none⟩ = some v1 ∧ X.cell? ⟨w.heap.size + 1 + 1, 0, none⟩ = some v2 := fun X hb => ⟨(hb.cell (p := ⟨w.heap.size + 1, 0, none⟩) bA1.lt).trans bA1.cell, (hb.cell (p := ⟨w.heap.size + 1 + 1, 0, none⟩) bA2.lt).trans bA2.cell⟩
        replace keepA := Lib.hid keepA
        replace oA := Lib.hid oA
        replace uA := Lib.hid uA
        replace rA := Lib.hid rA
        clear qA
        simp only [Act.put, List.getElem_toArray, List.getElem_cons_succ, List.getElem_cons_zero, List.setIfInBounds_toArray, List.set_cons_zero, List.set_cons_succ]
        refine wpAnyT_ready (rs := [6]) (by kernel_rfl) (by simp) ?_
        refine AllT.cons rfl (fun K hK => ?_) AllT.nil
        go_simp
        refine hK.out _ _ (fun _ => keepA.out _ (by repeat (first | exact Below.refl _ _ | refine bl_drew ?_ | refine bl_alloc ?_ _))) ?_
        clear hK K
        refine wpAnyT_ready (rs := [7]) (by kernel_rfl) (by simp) ?_
        refine AllT.cons rfl (fun K hK => ?_) AllT.nil
        refine step_append_lies _ rfl (.tmp 20) (.tmp 22) 33 rfl V.heap.size 3 i3 _ 1 8 Tryd.underlying33 hi3 hz31 hz32 hz33 rfl Nat.zero_lt_one v2 pre.length (av pre) rfl (ownsRow_below uA.out (by repeat (first | exact Below.refl _ _ | refine bl_drew ?_ | refine bl_alloc ?_ _))) _ 1 1 [.int .i64 (x.1 : Int)] rfl rfl (news_one rfl (by first | (simp; done) | (simp; omega) | (rw [nA.out _ (by omega) (by first | (simp; done) | (simp; omega))]; simp; done) | (rw [nA.out _ (by omega) (by first | (simp; done) | (simp; omega))]; simp; omega))) (one_one (by simp [Value.oneCell'])) Nat.zero_lt_one m1 m3 (by first | omega | (simp; omega)) _ rfl ?_
        intro gB cB wB oB qB _ _
        obtain ⟨rB, uB⟩ := app_step (rA.out.ofBelow (by repeat (first | exact Below.refl _ _ | refine bl_drew ?_ | refine bl_alloc ?_ _))) (ownsRow_below uA.out (by repeat (first | exact Below.refl _ _ | refine bl_drew ?_ | refine bl_alloc ?_ _))) (ownsRow_below oA.out (by repeat (first | exact Below.refl _ _ | refine bl_drew ?_ | refine bl_alloc ?_ _))) (by decide) (.inr rfl) qB
        have sB : W.heap.size ≤ wB.heap.size := Rg.size rB
        have bB1 := Rg.box rB h3.out h4.out h1 (by decide) (by decide)
        have bB2 := Rg.box rB h3.out h4.out h2 (by decide) (by decide)
        refine hK.out _ _ (fun _ => ⟨bB1.cell, bB2.cell⟩) ?_
        clear hK K
        have kB1 := bB1.cell
        have kB2 := bB2.cell
        have fB1 := bB1.frozen
        have fB2 := bB2.frozen
        replace oB := Lib.hid oB
        replace uB := Lib.hid uB
        replace rB := Lib.hid rB
        clear qB keepA nA
        simp only [Act.put, List.getElem_toArray, List.getElem_cons_succ, List.getElem_cons_zero, List.setIfInBounds_toArray, List.set_cons_zero, List.set_cons_succ]
        refine wpAnyT_ready (rs := [8]) (by kernel_rfl) (by simp) ?_
        refine AllT.cons rfl (fun K hK => ?_) AllT.nil
        go_simp
        refine hK.out _ _ (fun h => nomatch (Eq.trans (by kernel_rfl : true = _) h : true = false)) ?_
        clear hK K
        refine wpAnyT_ready (rs := [9]) (by kernel_rfl) (by simp) ?_
        refine AllT.cons rfl (fun K hK => ?_) AllT.nil
        go_simp
        refine hK.out _ _ (fun h => nomatch (Eq.trans (by kernel_rfl : true = _) h : true = false)) ?_
        clear hK K
        refine wpAnyT_done (by kernel_rfl) ⟨rfl, ?_⟩ _
        gi_wp2
        exact words_step (by omega) h3.out h4.out rB.out bB1 bB2 uB.out oB.out hon sz rfl
      · go_simp
        refine hK.out _ _ (fun _ => keepC.out _ (by repeat (first | exact Below.refl _ _ | refine bl_drew ?_ | refine bl_alloc ?_ _))) ?_
        clear hK K
        refine wpAnyT_ready (rs := [3]) (by kernel_rfl) (by simp) ?_
        refine AllT.cons rfl (fun K hK => ?_) AllT.nil
        refine step_append_lies _ rfl (.tmp 16) (.tmp 18) 68 rfl V.heap.size 9 i9 _ 1 16 Tryd.underlying68 hi9 hz91 hz92 hz93 rfl Nat.zero_lt_one v1 pre.length (wv pre) rfl (ownsRow_below h3.out (by repeat (first | exact Below.refl _ _ | refine bl_drew ?_ | refine bl_alloc ?_ _))) _ 1 1 [strV x.2] rfl rfl (news_one rfl (by first | (simp; done) | (simp; omega))) (one_one (by simp [strV, Value.oneCell'])) Nat.zero_lt_one m1 m2 (by first | omega | (simp; omega)) _ rfl ?_
        intro gA cA wA oA qA _ _
        obtain ⟨rA, uA⟩ := app_step ((Rg.refl v1.ownBlock v2.ownBlock W).ofBelow (by repeat (first | exact Below.refl _ _ | refine bl_drew ?_ | refine bl_alloc ?_ _))) (ownsRow_below h3.out (by repeat (first | exact Below.refl _ _ | refine bl_drew ?_ | refine bl_alloc ?_ _))) (ownsRow_below h4.out (by repeat (first | exact Below.refl _ _ | refine bl_drew ?_ | refine bl_alloc ?_ _))) (by decide) (.inl rfl) qA
        have nA := Lib.hid (fun b (h0 : W.heap.size ≤ b) hb => qA.cell_far ⟨b, 0, none⟩ hb (own_lt h3.out b h0))
        have sA : W.heap.size ≤ wA.heap.size := Rg.size rA
        have bA1 := Rg.box rA h3.out h4.out h1 (by decide) (by decide)
        have bA2 := Rg.box rA h3.out h4.out h2 (by decide) (by decide)
        refine hK.out _ _ (fun _ => ⟨bA1.cell, bA2.cell⟩) ?_
        clear hK K
        have keepA : ∀ X, Below wA.heap.size wA X → X.cell? ⟨w.heap.size + 1, 0, none⟩ = some v1 ∧ X.cell? ⟨w.heap.size + 1 + 1, 0, none⟩ = some v2 := fun X hb => ⟨(hb.cell (p := ⟨w.heap.size + 1, 0, none⟩) bA1.lt).trans bA1.cell, (hb.cell (p := ⟨w.heap.size + 1 + 1, 0, none⟩) bA2.lt).trans bA2.cell⟩
        replace keepA := Lib.hid keepA
        replace oA := Lib.hid oA
        replace uA := Lib.hid uA
        replace rA := Lib.hid rA
        clear qA
        simp only [Act.put, List.getElem_toArray, List.getElem_cons_succ, List.getElem_cons_zero, List.setIfInBounds_toArray, List.set_cons_zero, List.set_cons_succ]
        refine wpAnyT_ready (rs := [7]) (by kernel_rfl) (by simp) ?_
        refine AllT.cons rfl (fun K hK => ?_) AllT.nil
        refine step_append_lies _ rfl (.tmp 20) (.tmp 22) 33 rfl V.heap.size 3 i3 _ 1 8 Tryd.underlying33 hi3 hz31 hz32 hz33 rfl Nat.zero_lt_one v2 pre.length (av pre) rfl (ownsRow_below uA.out (by repeat (first | exact Below.refl _ _ | refine bl_drew ?_ | refine bl_alloc ?_ _))) _ 1 1 [.int .i64 (x.1 : Int)] rfl rfl (news_one rfl (by first | (simp; done) | (simp; omega) | (rw [nA.out _ (by omega) (by first | (simp; done) | (simp; omega))]; simp; done) | (rw [nA.out _ (by omega) (by first | (simp; done) | (simp; omega))]; simp; omega))) (one_one (by simp [Value.oneCell'])) Nat.zero_lt_one m1 m3 (by first | omega | (simp; omega)) _ rfl ?_
        intro gB cB wB oB qB _ _
        obtain ⟨rB, uB⟩ := app_step (rA.out.ofBelow (by repeat (first | exact Below.refl _ _ | refine bl_drew ?_ | refine bl_alloc ?_ _))) (ownsRow_below uA.out (by repeat (first | exact Below.refl _ _ | refine bl_drew ?_ | refine bl_alloc ?_ _))) (ownsRow_below oA.out (by repeat (first | exact Below.refl _ _ | refine bl_drew ?_ | refine bl_alloc ?_ _))) (by decide) (.inr rfl) qB
        have sB : W.heap.size ≤ wB.heap.size := Rg.size rB
        have bB1 := Rg.box rB h3.out h4.out h1 (by decide) (by decide)
        have bB2 := Rg.box rB h3.out h4.out h2 (by decide) (by decide)
        refine hK.out _ _ (fun _ => ⟨bB1.cell, bB2.cell⟩) ?_
        clear hK K
        have kB1 := bB1.cell
        have kB2 := bB2.cell
        have fB1 := bB1.frozen
        have fB2 := bB2.frozen
        replace oB := Lib.hid oB
        replace uB := Lib.hid uB
        replace rB := Lib.hid rB
        clear qB keepA nA
        simp only [Act.put, List.getElem_toArray, List.getElem_cons_succ, List.getElem_cons_zero, List.setIfInBounds_toArray, List.set_cons_zero, List.set_cons_succ]
        refine wpAnyT_ready (rs := [8]) (by kernel_rfl) (by simp) ?_
        refine AllT.cons rfl (fun K hK => ?_) AllT.nil
        go_simp
        refine hK.out _ _ (fun h => nomatch (Eq.trans (by kernel_rfl : true = _) h : true = false)) ?_
        clear hK K
        refine wpAnyT_ready (rs := [9]) (by kernel_rfl) (by simp) ?_
        refine AllT.cons rfl (fun K hK => ?_) AllT.nil
        go_simp
        refine hK.out _ _ (fun h => nomatch (Eq.trans (by kernel_rfl : true = _) h : true = false)) ?_
        clear hK K
        refine wpAnyT_done (by kernel_rfl) ⟨rfl, ?_⟩ _
        gi_wp2
        exact words_step (by omega) h3.out h4.out rB.out bB1 bB2 uB.out oB.out hon sz rfl
    · go_simp
      refine hK.out _ _ (fun _ => keepC.out _ (by repeat (first | exact Below.refl _ _ | refine bl_drew ?_ | refine bl_alloc ?_ _))) ?_
      clear hK K
      refine wpAnyT_ready (rs := [2]) (by kernel_rfl) (by simp) ?_
      refine AllT.cons rfl (fun K hK => ?_) AllT.nil
      go_simp
      refine hK.out _ _ (fun _ => keepC.out _ (by repeat (first | exact Below.refl _ _ | refine bl_drew ?_ | refine bl_alloc ?_ _))) ?_
      clear hK K
      refine wpAnyT_ready (rs := [3]) (by kernel_rfl) (by simp) ?_
      refine AllT.cons rfl (fun K hK => ?_) AllT.nil
      refine step_append_lies _ rfl (.tmp 16) (.tmp 18) 68 rfl V.heap.size 9 i9 _ 1 16 Tryd.underlying68 hi9 hz91 hz92 hz93 rfl Nat.zero_lt_one v1 pre.length (wv pre) rfl (ownsRow_below h3.out (by repeat (first | exact Below.refl _ _ | refine bl_drew ?_ | refine bl_alloc ?_ _))) _ 1 1 [strV x.2] rfl rfl (news_one rfl (by first | (simp; done) | (simp; omega))) (one_one (by simp [strV, Value.oneCell'])) Nat.zero_lt_one m1 m2 (by first | omega | (simp; omega)) _ rfl ?_
      intro gA cA wA oA qA _ _
      obtain ⟨rA, uA⟩ := app_step ((Rg.refl v1.ownBlock v2.ownBlock W).ofBelow (by repeat (first | exact Below.refl _ _ | refine bl_drew ?_ | refine bl_alloc ?_ _))) (ownsRow_below h3.out (by repeat (first | exact Below.refl _ _ | refine bl_drew ?_ | refine bl_alloc ?_ _))) (ownsRow_below h4.out (by repeat (first | exact Below.refl _ _ | refine bl_drew ?_ | refine bl_alloc ?_ _))) (by decide) (.inl rfl) qA
      have nA := Lib.hid (fun b (h0 : W.heap.size ≤ b) hb => qA.cell_far ⟨b, 0, none⟩ hb (own_lt h3.out b h0))
      have sA : W.heap.size ≤ wA.heap.size := Rg.size rA
      have bA1 := Rg.box rA h3.out h4.out h1 (by decide) (by decide)
      have bA2 := Rg.box rA h3.out h4.out h2 (by decide) (by decide)
      refine hK.out _ _ (fun _ => ⟨bA1.cell, bA2.cell⟩) ?_
      clear hK K
      have keepA : ∀ X, Below wA.heap.size wA X → X.cell? ⟨w.heap.size + 1, 0, none⟩ = some v1 ∧ X.cell? ⟨w.heap.size + 1 + 1, 0, none⟩ = some v2 := fun X hb => ⟨(hb.cell (p := ⟨w.heap.size + 1, 0, none⟩) bA1.lt).trans bA1.cell, (hb.cell (p := ⟨w.heap.size + 1 + 1, 0, none⟩) bA2.lt).trans bA2.cell⟩
      replace keepA := Lib.hid keepA
      replace oA := Lib.hid oA
      replace uA := Lib.hid uA
      replace rA := Lib.hid rA
      clear qA
      simp only [Act.put, List.getElem_toArray, List.getElem_cons_succ, List.getElem_cons_zero, List.setIfInBounds_toArray, List.set_cons_zero, List.set_cons_succ]
      refine wpAnyT_ready (rs := [7]) (by kernel_rfl) (by simp) ?_
      refine AllT.cons rfl (fun K hK => ?_) AllT.nil
      refine step_append_lies _ rfl (.tmp 20) (.tmp 22) 33 rfl V.heap.size 3 i3 _ 1 8 Tryd.underlying33 hi3 hz31 hz32 hz33 rfl Nat.zero_lt_one v2 pre.length (av pre) rfl (ownsRow_below uA.out (by repeat (first | exact Below.refl _ _ | refine bl_drew ?_ | refine bl_alloc ?_ _))) _ 1 1 [.int .i64 (x.1 : Int)] rfl rfl (news_one rfl (by first | (simp; done) | (simp; omega) | (rw [nA.out _ (by omega) (by first | (simp; done) | (simp; omega))]; simp; done) | (rw [nA.out _ (by omega) (by first | (simp; done) | (simp; omega))]; simp; omega))) (one_one (by simp [Value.oneCell'])) Nat.zero_lt_one m1 m3 (by first | omega | (simp; omega)) _ rfl ?_
      intro gB cB wB oB qB _ _
      obtain ⟨rB, uB⟩ := app_step (rA.out.ofBelow (by repeat (first | exact Below.refl _ _ | refine bl_drew ?_ | refine bl_alloc ?_ _))) (ownsRow_below uA.out (by repeat (first | exact Below.refl _ _ | refine bl_drew ?_ | refine bl_alloc ?_ _))) (ownsRow_below oA.out (by repeat (first | exact Below.refl _ _ | refine bl_drew ?_ | refine bl_alloc ?_ _))) (by decide) (.inr rfl) qB
      have sB : W.heap.size ≤ wB.heap.size := Rg.size rB
      have bB1 := Rg.box rB h3.out h4.out h1 (by decide) (by decide)
      have bB2 := Rg.box rB h3.out h4.out h2 (by decide) (by decide)
      refine hK.out _ _ (fun _ => ⟨bB1.cell, bB2.cell⟩) ?_
      clear hK K
      have kB1 := bB1.cell
      have kB2 := bB2.cell
      have fB1 := bB1.frozen
      have fB2 := bB2.frozen
      replace oB := Lib.hid oB
      replace uB := Lib.hid uB
      replace rB := Lib.hid rB
      clear qB keepA nA
      simp only [Act.put, List.getElem_toArray, List.getElem_cons_succ, List.getElem_cons_zero, List.setIfInBounds_toArray, List.set_cons_zero, List.set_cons_succ]
      refine wpAnyT_ready (rs := [8]) (by kernel_rfl) (by simp) ?_
      refine AllT.cons rfl (fun K hK => ?_) AllT.nil
      go_simp
      refine hK.out _ _ (fun h => nomatch (Eq.trans (by kernel_rfl : true = _) h : true = false)) ?_
      clear hK K
      refine wpAnyT_ready (rs := [9]) (by kernel_rfl) (by simp) ?_
      refine AllT.cons rfl (fun K hK => ?_) AllT.nil
      go_simp
      refine hK.out _ _ (fun h => nomatch (Eq.trans (by kernel_rfl : true = _) h : true = false)) ?_
      clear hK K
      refine wpAnyT_done (by kernel_rfl) ⟨rfl, ?_⟩ _
      gi_wp2
      exact words_step (by omega) h3.out h4.out rB.out bB1 bB2 uB.out oB.out hon sz rfl
  case done =>
    rintro D zs W hD rfl ⟨⟨v1, v2, h1, h2, h3, h4⟩, hon⟩ hK
    have bO : Blk W w.heap.size 41 [.int .i64 0, .int .i64 0, .int .i64 0, .string ⟨#[]⟩] := B0.only hon (fun h => by unfold PK at h; omega)
    have k1 := h1.cell
    have k2 := h2.cell
    have hO := (hw3.trans (hon.below (N := w.heap.size) (by omega) (fun k hk => by unfold PK at hk; omega)) : Below w.heap.size w W)
    have cO := cells4 bO
    have fO := free4 bO
    have hparse : OM.parse L = OM.parseW L (OM.wds 0 L) := rfl
    have hpos : ∀ z ∈ OM.wds 0 L, z.1 < L.length ∧ z.2.length ≤ L.length := fun z hz => by have := wds_pos L.length L 0 (Nat.le_refl _) z hz; omega
    have hwl := wds_len L.length L 0 (Nat.le_refl _)
    replace hpos := Lib.hid hpos
    replace hwl := Lib.hid hwl
    generalize OM.wds 0 L = zs at *
    clear b1 b2 b3 B0 c3 hV hw3
    replace h3 := Lib.hid h3
    replace h4 := Lib.hid h4
    replace hK := Lib.hid hK
    replace hO := Lib.hid hO
    replace hparse := Lib.hid hparse
    cases zs with
    | nil =>
      obtain ⟨a1, c1, rfl⟩ := own_form h3.out
      rw [show ([] : List Item).length = 0 from rfl] at k1
      go_wp2_with fail
      exact ret4 (s := []) (by omega) hparse.out bO hO.out hK.out
    | cons z r =>
      obtain ⟨p, x⟩ := z
      obtain ⟨g, c1, rfl, hgB, hgl, hcap, hst⟩ := words_at ((p, x) :: r) h3.out (by simp)
      obtain ⟨g2, c2, rfl, hg2B, hg2l, hbg⟩ := begins_at ((p, x) :: r) h4.out (by simp)
      have hbO := Lib.hid bO
      have l0 : w.heap.size < W.heap.size := bO.lt
      have l1 : w.heap.size + 1 < W.heap.size := h1.lt
      have l2 : w.heap.size + 1 + 1 < W.heap.size := h2.lt
      replace hst := Lib.hid hst
      replace hbg := Lib.hid hbg
      obtain ⟨n, hn⟩ : ∃ n, ((p, x) :: r).length = n := ⟨_, rfl⟩
      rw [hn] at k1 k2
      have hn0 : 0 < n := by rw [← hn]; simp
      have hnr : n = r.length + 1 := by rw [← hn]; simp
      rw [hn] at hcap
      have hni : ((n : Int) == 0) = false := by simp; omega
      replace hn := Lib.hid hn
      go_upto_region 10 with (fail)
      obtain ⟨X, hX⟩ : ∃ X, W.alloc zeroO = X := ⟨_, rfl⟩
      change Code.wp _ _ _ _ (W.alloc zeroO)
      have xN : Blk X W.heap.size 41 [.int .i64 0, .int .i64 0, .int .i64 0, .string ⟨#[]⟩] := hX ▸ Blk.new W 41 [.int .i64 0, .int .i64 0, .int .i64 0, .string ⟨#[]⟩]
      have xb : Below W.heap.size W X := hX ▸ bl_alloc (Below.refl _ _) _
      rw [hX]
      have xl : W.heap.size < X.heap.size := xN.lt
      have xO := hbO.out.below xb
      have xK := (xb.block D (Array.getElem?_eq_some_iff.1 hK.out).1).trans hK.out
      have xB := bl_trans hO.out xb
      have xst := hst.out.below xb
      have xk1 := (xb.cell (p := ⟨w.heap.size + 1, 0, none⟩) l1).trans k1
      have xk2 := (xb.cell (p := ⟨w.heap.size + 1 + 1, 0, none⟩) l2).trans k2
      have xw : X.cell? ⟨g, 0, none⟩ = some (strV x) := (xb.cell (p := ⟨g, 0, none⟩) hgl).trans (by
        obtain ⟨b, o, e, _, _, hc⟩ := hst.out (by simp)
        injection e with e; injection e with e1 e2 e3; subst e1; subst e2
        exact hc 0 (by simp))
      have xbg : ∀ i (hi : i < ((p, x) :: r).length), X.cell? ⟨g2, i, none⟩ = some (.int .i64 (((p, x) :: r)[i].1 : Int)) := fun i hi => (xb.cell (p := ⟨g2, i, none⟩) hg2l).trans (hbg.out i hi)
      clear cO fO h1 h2 h3 h4 hbO hst hbg hO hon bO hgB hg2B
      have cO := cells4 xO
      have fO := free4 xO
      have cN := cells4 xN
      have fN := free4 xN
      clear hX k1 k2
      replace xb := Lib.hid xb
      replace xO := Lib.hid xO
      replace xK := Lib.hid xK
      replace xB := Lib.hid xB
      replace xst := Lib.hid xst
      replace xbg := Lib.hid xbg
      by_cases e1 : x = OM.watchW
      · subst e1
        have q1 : (OM.watchW == [119, 97, 116, 99, 104]) = true := by decide
        cases r with
        | nil =>
          have hp := hparse.out
          simp only [OM.parseW, if_true] at hp
          replace hp := Lib.hid hp
          go_wp2_with fail
          exact ret4 (s := []) (by omega) hp.out xO.out xB.out xK.out
        | cons y q =>
          have hp := hparse.out
          simp only [OM.parseW, if_true] at hp
          have i1 : X.cell? ⟨g2, 1, none⟩ = some (.int .i64 (y.1 : Int)) := xbg.out 1 (by simp)
          have i2 := (hpos.out y (by simp)).1
          have hn1 : ((n : Int) == 1) = false := by simp only [hnr, List.length_cons]; simp; omega
          obtain ⟨py, sy⟩ := y
          simp only at i1 i2 hp
          replace hp := Lib.hid hp
          have i3 : (1 : Int) < n := by simp only [hnr, List.length_cons]; omega
          have i4 : 1 < n := by simp only [hnr, List.length_cons]; omega
          have i5 : (py : Int) ≤ L.length := by omega
          have i6 : py ≤ L.length := by omega
          clear hnr hni hn
          generalize ((py, sy) :: q).length = m at *
          go_wp2_with fail
          rw [show Value.string ((⟨L.toArray⟩ : ByteArray).extract py L.length) = strV (L.drop py) from by rw [ext_list, List.take_of_length_le (by simp)]]
          exact ret4 (s := L.drop py) (by omega) hp.out xO.out xB.out xK.out
      · have q0 : (x == [119, 97, 116, 99, 104]) = false := by simpa [OM.watchW] using e1
        replace e1 := Lib.hid e1
        go_upto_block 2 with (fail)
        go_cut [9, 10, 11] from 16 to 89 (fun s9 s10 s11 wx => DoneR L w W.heap.size D s9 wx)
        case first =>
          have hwl' := hwl.out
          obtain ⟨rs, hrs⟩ : ∃ rs, r.map (fun z : Item => z.2) = rs := ⟨_, rfl⟩
          have hrl : rs.length = n - 1 := by rw [← hrs, List.length_map]; omega
          have hx1 : rs.length ≤ 1000000 := by rw [hrl, hnr]; simp only [List.length_cons] at hwl'; omega
          have hx2 : ∀ i (h : i < rs.length), (rs[i]).length ≤ 1000000 := fun i h => by
            subst hrs
            rw [List.length_map] at h
            have := (hpos.out r[i] (List.mem_cons_of_mem _ (List.getElem_mem h))).2
            simp only [List.getElem_map]; omega
          have hxl : x.length ≤ 1000000 := by have := (hpos.out (p, x) (by simp)).2; simp only at this; omega
          have xr : ∀ Y, Below X.heap.size X Y → ∀ a, a = some ⟨g, 1, none⟩ ∨ (a = some ⟨g, 0, none⟩ ∧ c1 - 1 = 0) → StrAt (fun _ => True) Y a rs := fun Y hY a ha => by
            rcases ha with rfl | ⟨rfl, h0⟩
            · subst hrs; exact (StrAt.rest (x := x) xst.out).below hY
            · exact fun h => by omega
          have hpw : OM.parse L = OM.rest1 x rs := by rw [hparse.out, ← hrs]; simp only [OM.parseW, if_neg e1.out]; rfl
          have hdone : ∀ (k n m cc : Int) (s : List UInt8) (w6 : World), OM.rest1 x rs = OM.fin (⟨k, n, m, s⟩, cc) → Below X.heap.size X w6 → DoneR L w W.heap.size D (.int .i64 cc) ((((w6.setCell ⟨W.heap.size, 0, none⟩ (.int .i64 k)).setCell ⟨W.heap.size, 1, none⟩ (.int .i64 n)).setCell ⟨W.heap.size, 2, none⟩ (.int .i64 m)).setCell ⟨W.heap.size, 3, none⟩ (strV s)) :=
            fun k n m cc s w6 h1 h2 => done_mk (hpw.trans h1) xN xO.out xB.out xK.out h2 l0
          replace xr := Lib.hid xr
          replace hpw := Lib.hid hpw
          replace hdone := Lib.hid hdone
          replace hx1 := Lib.hid hx1
          replace hx2 := Lib.hid hx2
          replace hxl := Lib.hid hxl
          have hxN := Lib.hid xN
          have i0 : (0 : Int) ≤ 1 := by omega
          have i1 : (1 : Int) ≤ n := by omega
          have i2 : (n : Int) ≤ c1 := by omega
          have i3 : c1 - 1 = 0 ∨ c1 - 1 ≠ 0 := by omega
          replace hrl := Lib.hid hrl
          clear hnr hni hn hrs hwl' xN
          by_cases e2 : x = OM.breakW
          · subst e2
            have q2 : (OM.breakW == [98, 114, 101, 97, 107]) = true := by decide
            have hcall : ∀ Y, Below X.heap.size X Y → ∀ a, a = some ⟨g, 1, none⟩ ∨ (a = some ⟨g, 0, none⟩ ∧ c1 - 1 = 0) → ∀ c', Calls Tryd.prog 57 #[.slice a (n - 1) c'] Y (OrdIs (OM.breaks rs) Y) := fun Y hY a ha c' => by
              rw [← hrl.out]; exact breaks_any _ c' _ Y hx1.out hx2.out (xr.out Y hY a ha)
            have hd2 := hdone.out
            rw [show OM.rest1 OM.breakW rs = OM.fin (OM.breaks rs) from rfl] at hd2
            generalize OM.breaks rs = P at hcall hd2
            obtain ⟨⟨k, n', m', s⟩, cc⟩ := P
            replace hd2 := Lib.hid hd2
            replace hcall := Lib.hid hcall
            clear hdone hpw
            rcases i3 with i3 | i3
            all_goals
              go_wp2_with (go_at_call 57; refine (hcall.out _ (Below.refl _ _) _ (by first | exact .inl rfl | exact .inr ⟨rfl, i3⟩) _).mono ?_; rintro e w6 ⟨rfl, hb6⟩; have gN := hxN.out.below hb6; have c6 := cells4 gN; have f6 := free4 gN; have l6 := gN.lt; have gO := xO.out.below hb6; have cO6 := cells4 gO; have fO6 := free4 gO; have lO6 := gO.lt; replace gN := Lib.hid gN; replace gO := Lib.hid gO; replace hb6 := Lib.hid hb6)
              go_meet
              case rel => exact hd2.out k n' m' cc s _ rfl hb6.out
          · replace e2 := Lib.hid e2
            have q3 : (x == [98, 114, 101, 97, 107]) = false := by simpa [OM.breakW] using e2.out
            by_cases e3 : x = OM.listW
            · subst e3
              have q2 : (OM.listW == [108, 105, 115, 116]) = true := by decide
              have hcall : ∀ Y, Below X.heap.size X Y → ∀ a, a = some ⟨g, 1, none⟩ ∨ (a = some ⟨g, 0, none⟩ ∧ c1 - 1 = 0) → ∀ c', Calls Tryd.prog 58 #[.slice a (n - 1) c'] Y (OrdIs (OM.list rs) Y) := fun Y hY a ha c' => by
                rw [← hrl.out]; exact list_any _ c' _ Y hx1.out hx2.out (xr.out Y hY a ha)
              have hd2 := hdone.out
              rw [show OM.rest1 OM.listW rs = OM.fin (OM.list rs) from rfl] at hd2
              generalize OM.list rs = P at hcall hd2
              obtain ⟨⟨k, n', m', s⟩, cc⟩ := P
              replace hd2 := Lib.hid hd2
              replace hcall := Lib.hid hcall
              clear hdone hpw
              rcases i3 with i3 | i3
              all_goals
                go_wp2_with (go_at_call 58; refine (hcall.out _ (Below.refl _ _) _ (by first | exact .inl rfl | exact .inr ⟨rfl, i3⟩) _).mono ?_; rintro e w6 ⟨rfl, hb6⟩; have gN := hxN.out.below hb6; have c6 := cells4 gN; have f6 := free4 gN; have l6 := gN.lt; have gO := xO.out.below hb6; have cO6 := cells4 gO; have fO6 := free4 gO; have lO6 := gO.lt; replace gN := Lib.hid gN; replace gO := Lib.hid gO; replace hb6 := Lib.hid hb6)
                go_meet
                case rel => exact hd2.out k n' m' cc s _ rfl hb6.out
            · replace e3 := Lib.hid e3
              have q4 : (x == [108, 105, 115, 116]) = false := by simpa [OM.listW] using e3.out
              by_cases e4 : x = OM.showW ∨ x = OM.fileW
              · have hcall : ∀ Y, Below X.heap.size X Y → ∀ a, a = some ⟨g, 1, none⟩ ∨ (a = some ⟨g, 0, none⟩ ∧ c1 - 1 = 0) → ∀ c', Calls Tryd.prog 59 #[strV x, .slice a (n - 1) c'] Y (OrdIs (OM.named x rs) Y) := fun Y hY a ha c' => by
                  rw [← hrl.out]
                  rcases e4 with rfl | rfl
                  · exact named_show _ c' _ Y hx1.out hx2.out (xr.out Y hY a ha)
                  · exact named_file _ c' _ Y hx1.out hx2.out (xr.out Y hY a ha)
                have hd2 := hdone.out
                rw [show OM.rest1 x rs = OM.fin (OM.named x rs) by unfold OM.rest1; rw [if_neg e2.out, if_neg e3.out, if_pos e4]] at hd2
                generalize OM.named x rs = P at hcall hd2
                obtain ⟨⟨k, n', m', s⟩, cc⟩ := P
                replace hd2 := Lib.hid hd2
                replace hcall := Lib.hid hcall
                have q5 : (x == [115, 104, 111, 119]) = true ∨ ((x == [115, 104, 111, 119]) = false ∧ (x == [102, 105, 108, 101]) = true) := by
                  rcases e4 with rfl | rfl
                  · exact .inl (by decide)
                  · exact .inr ⟨by decide, by decide⟩
                clear hdone hpw e4
                have kk : ∀ Y, Below X.heap.size X Y → (Y.cell? ⟨w.heap.size + 1, 0, none⟩ = some (.slice (some ⟨g, 0, none⟩) n c1) ∧ Y.cell? ⟨g, 0, none⟩ = some (strV x)) ∧ ∀ a b c d, (((Y.setCell ⟨W.heap.size, 0, none⟩ a).setCell ⟨W.heap.size, 1, none⟩ b).setCell ⟨W.heap.size, 2, none⟩ c |>.setCell ⟨W.heap.size, 3, none⟩ d).cell? ⟨w.heap.size + 1, 0, none⟩ = some (.slice (some ⟨g, 0, none⟩) n c1) ∧ (((Y.setCell ⟨W.heap.size, 0, none⟩ a).setCell ⟨W.heap.size, 1, none⟩ b).setCell ⟨W.heap.size, 2, none⟩ c |>.setCell ⟨W.heap.size, 3, none⟩ d).cell? ⟨g, 0, none⟩ = some (strV x) := fun Y hY => by
                  have y1 := (hY.cell (p := ⟨w.heap.size + 1, 0, none⟩) (by simp; omega)).trans xk1
                  have y2 := (hY.cell (p := ⟨g, 0, none⟩) (by simp; omega)).trans xw
                  refine ⟨⟨y1, y2⟩, fun a b c d => ?_⟩
                  have n1 : w.heap.size + 1 ≠ W.heap.size := by omega
                  have n2 : g ≠ W.heap.size := by omega
                  exact ⟨(set4_cell n1 _ _ _ _ _ _).trans y1, (set4_cell n2 _ _ _ _ _ _).trans y2⟩
                have kk0 := (kk X.drew (bl_drew (Below.refl _ _))).1
                have xN' := Lib.hid (fun w6 (hb6 : Below X.heap.size X w6) => hxN.out.below hb6)
                replace kk := Lib.hid kk
                have hn0' : (0 : Int) < n := by omega
                clear cO fO xk2 hxN
                clear cN fN
                have i4 : c1 = 1 ∨ ¬ c1 = 1 := by omega
                clear i3
                rcases q5 with q5 | ⟨q5, q6⟩
                all_goals
                  go_upto_region 25 with (fail)
                  clear q0 q3 q4 q5
                  rcases i4 with rfl | i4
                  · obtain rfl : n = 1 := by omega
                    have hcallX : Calls Tryd.prog 59 #[strV x, .slice (some ⟨g, 0, none⟩) 0 0] X.drew (OrdIs (⟨k, n', m', s⟩, cc) X.drew) := hcall.out X.drew (bl_drew (Below.refl _ _)) (some ⟨g, 0, none⟩) (.inr ⟨rfl, rfl⟩) 0
                    replace hcallX := Lib.hid hcallX
                    go_region_held3 (fun w' => w'.cell? ⟨w.heap.size + 1, 0, none⟩ = some (.slice (some ⟨g, 0, none⟩) 1 1) ∧ w'.cell? ⟨g, 0, none⟩ = some (strV x)) (first | with_reducible exact kk0 | with_reducible exact kS.out.1 | with_reducible exact kS.out.2 _ _ _ _)
                      ((go_at_call 59; (with_reducible refine (hcallX.out).mono ?_); rintro e w6 ⟨rfl, hb6⟩; replace hb6 : Below X.heap.size X w6 := bl_trans (bl_drew (Below.refl _ _)) hb6; have gN := xN'.out _ hb6; have c6 := cells4 gN; have f6 := free4 gN; have l6 := gN.lt; have kS := Lib.hid (kk.out w6 hb6); replace gN := Lib.hid gN; replace hb6 := Lib.hid hb6))
                    all_goals go_wp2_with fail
                    all_goals go_meet
                    all_goals exact hd2.out k n' m' cc s _ rfl hb6.out
                  · have hcallX := Lib.hid (hcall.out X.drew (bl_drew (Below.refl _ _)) (some ⟨g, 1, none⟩) (.inl rfl))
                    go_region_held3 (fun w' => w'.cell? ⟨w.heap.size + 1, 0, none⟩ = some (.slice (some ⟨g, 0, none⟩) n c1) ∧ w'.cell? ⟨g, 0, none⟩ = some (strV x)) (first | with_reducible exact kk0 | with_reducible exact kS.out.1 | with_reducible exact kS.out.2 _ _ _ _)
                      ((go_at_call 59; (with_reducible refine (hcallX.out _).mono ?_); rintro e w6 ⟨rfl, hb6⟩; replace hb6 : Below X.heap.size X w6 := bl_trans (bl_drew (Below.refl _ _)) hb6; have gN := xN'.out _ hb6; have c6 := cells4 gN; have f6 := free4 gN; have l6 := gN.lt; have kS := Lib.hid (kk.out w6 hb6); replace gN := Lib.hid gN; replace hb6 := Lib.hid hb6))
                    all_goals go_wp2_with fail
                    all_goals go_meet
                    all_goals exact hd2.out k n' m' cc s _ rfl hb6.out
              · have q5 : (x == [115, 104, 111, 119]) = false := by have : x ≠ OM.showW := fun h => e4 (.inl h); simpa [OM.showW] using this
                have q6 : (x == [102, 105, 108, 101]) = false := by have : x ≠ OM.fileW := fun h => e4 (.inr h); simpa [OM.fileW] using this
                replace e4 := Lib.hid e4
                have hn0' : (0 : Int) < n := by omega
                go_upto_region 11 with (fail)
                go_cut [10, 11] from 32 to 39 (fun s10 s11 wx => RuleR x X s10 s11 wx)
                case first =>
                  have lk1 := look_rule (X.alloc (.map (esN 12) 12)).drew X.heap.size x (heap_alloc_new _ _)
                  have lk2 := look_rule ((X.alloc (.map (esN 12) 12)).alloc (ruleO 0 false false false)).drew X.heap.size x ((Below.heap_alloc (X.alloc (.map (esN 12) 12)) _ X.heap.size (by simp)).trans (heap_alloc_new _ _))
                  have lk3 := look_rule ((X.alloc (ruleO 0 false false false)).alloc (.map (esN 12) 12)).drew (X.heap.size + 1) x (by have := heap_alloc_new (X.alloc (ruleO 0 false false false)) (.map (esN 12) 12); rwa [World.size_alloc] at this)
                  have y1 : w.heap.size + 1 < X.heap.size := by omega
                  have y2 : g < X.heap.size := by omega
                  have y3 : w.heap.size + 1 < X.heap.size + 1 := by omega
                  have y4 : g < X.heap.size + 1 := by omega
                  have y5 : w.heap.size + 1 < X.heap.size + 1 + 1 := by omega
                  have y6 : g < X.heap.size + 1 + 1 := by omega
                  have kk : ∀ Y, Below X.heap.size X Y → (Y.cell? ⟨w.heap.size + 1, 0, none⟩ = some (.slice (some ⟨g, 0, none⟩) n c1) ∧ Y.cell? ⟨g, 0, none⟩ = some (strV x)) := fun Y hY =>
                    ⟨(hY.cell (p := ⟨w.heap.size + 1, 0, none⟩) (by simp; omega)).trans xk1, (hY.cell (p := ⟨g, 0, none⟩) (by simp; omega)).trans xw⟩
                  replace kk := Lib.hid kk
                  clear cO fO xk2 hxN cN fN q0 q3 q4 q5 q6
                  cases hr : OM.ruleOf x with
                  | none =>
                    rw [hr] at lk1 lk2 lk3
                    simp only [entV] at lk1 lk2 lk3
                    replace hr := Lib.hid hr
                    go_region_held3 (fun w' => w'.cell? ⟨w.heap.size + 1, 0, none⟩ = some (.slice (some ⟨g, 0, none⟩) n c1) ∧ w'.cell? ⟨g, 0, none⟩ = some (strV x)) (exact kk.out _ (by repeat (first | with_reducible exact Below.refl _ _ | refine bl_drew ?_ | refine bl_alloc ?_ _)))
                      ((go_at_call 55; (with_reducible refine (rules_any _).mono ?_); rintro e w6 ⟨rfl, rfl⟩))
                    all_goals go_wp2_with fail
                    all_goals go_meet
                    all_goals first | exact ruleR1 x X (.inr ⟨hr.out, rfl⟩) | exact ruleR2 x X (.inr ⟨hr.out, rfl⟩)
                  | some q =>
                    obtain ⟨k, a1, a2, a3⟩ := q
                    rw [hr] at lk1 lk2 lk3
                    simp only [entV] at lk1 lk2 lk3
                    replace hr := Lib.hid hr
                    go_region_held3 (fun w' => w'.cell? ⟨w.heap.size + 1, 0, none⟩ = some (.slice (some ⟨g, 0, none⟩) n c1) ∧ w'.cell? ⟨g, 0, none⟩ = some (strV x)) (exact kk.out _ (by repeat (first | with_reducible exact Below.refl _ _ | refine bl_drew ?_ | refine bl_alloc ?_ _)))
                      ((go_at_call 55; (with_reducible refine (rules_any _).mono ?_); rintro e w6 ⟨rfl, rfl⟩))
                    all_goals go_wp2_with fail
                    all_goals go_meet
                    all_goals first | exact ruleR1 x X (.inl ⟨hr.out, rfl⟩) | exact ruleR2 x X (.inl ⟨hr.out, rfl⟩)
                case rest =>
                  obtain ⟨b, k, a1, a2, a3, rfl, hbX, hBr, hbw, hcase⟩ := hcut
                  have zN := hxN.out.below hbw
                  have zO := xO.out.below hbw
                  have zB := bl_trans xB.out hbw
                  have zK := (hbw.block D (Array.getElem?_eq_some_iff.1 xK.out).1).trans xK.out
                  have zk1 := (hbw.cell (p := ⟨w.heap.size + 1, 0, none⟩) (by simp; omega)).trans xk1
                  have cR := cells4 hBr
                  clear cO fO cN fN xk2 q0 q3 q4 q5 q6 xk1 xw hn0'
                  rcases hcase with ⟨hr, rfl⟩ | ⟨hr, rfl⟩
                  · have e5 : OM.rest1 x rs = OM.fin (OM.read (k, a1, a2, a3) rs) := by unfold OM.rest1; rw [if_neg e2.out, if_neg e3.out, if_neg e4.out, hr]
                    have hcall : ∀ Y, Below X.heap.size X Y → ∀ a, a = some ⟨g, 1, none⟩ ∨ (a = some ⟨g, 0, none⟩ ∧ c1 - 1 = 0) → ∀ c', Calls Tryd.prog 60 #[.agg #[.int .i64 k, .bool a1, .bool a2, .bool a3], .slice a (n - 1) c'] Y (OrdIs (OM.read (k, a1, a2, a3) rs) Y) := fun Y hY a ha c' => by
                      rw [← hrl.out]
                      exact read_any (k, a1, a2, a3) (rule_ok hr) _ c' _ Y hx1.out hx2.out (xr.out Y hY a ha)
                    have hd2 := hdone.out
                    rw [e5] at hd2
                    generalize OM.read (k, a1, a2, a3) rs = P at hcall hd2
                    obtain ⟨⟨k', n', m', s⟩, cc⟩ := P
                    have kk : ∀ Y, Below wc.heap.size wc Y → (Y.cell? ⟨w.heap.size + 1, 0, none⟩ = some (.slice (some ⟨g, 0, none⟩) n c1) ∧ Y.cell? ⟨b, 0, none⟩ = some (.int .i64 k) ∧ Y.cell? ⟨b, 1, none⟩ = some (.bool a1) ∧ Y.cell? ⟨b, 2, none⟩ = some (.bool a2) ∧ Y.cell? ⟨b, 3, none⟩ = some (.bool a3)) ∧
                        ∀ a e c d, ((((Y.setCell ⟨W.heap.size, 0, none⟩ a).setCell ⟨W.heap.size, 1, none⟩ e).setCell ⟨W.heap.size, 2, none⟩ c |>.setCell ⟨W.heap.size, 3, none⟩ d).cell? ⟨w.heap.size + 1, 0, none⟩ = some (.slice (some ⟨g, 0, none⟩) n c1) ∧ (((Y.setCell ⟨W.heap.size, 0, none⟩ a).setCell ⟨W.heap.size, 1, none⟩ e).setCell ⟨W.heap.size, 2, none⟩ c |>.setCell ⟨W.heap.size, 3, none⟩ d).cell? ⟨b, 0, none⟩ = some (.int .i64 k) ∧
                          (((Y.setCell ⟨W.heap.size, 0, none⟩ a).setCell ⟨W.heap.size, 1, none⟩ e).setCell ⟨W.heap.size, 2, none⟩ c |>.setCell ⟨W.heap.size, 3, none⟩ d).cell? ⟨b, 1, none⟩ = some (.bool a1) ∧ (((Y.setCell ⟨W.heap.size, 0, none⟩ a).setCell ⟨W.heap.size, 1, none⟩ e).setCell ⟨W.heap.size, 2, none⟩ c |>.setCell ⟨W.heap.size, 3, none⟩ d).cell? ⟨b, 2, none⟩ = some (.bool a2) ∧
                          (((Y.setCell ⟨W.heap.size, 0, none⟩ a).setCell ⟨W.heap.size, 1, none⟩ e).setCell ⟨W.heap.size, 2, none⟩ c |>.setCell ⟨W.heap.size, 3, none⟩ d).cell? ⟨b, 3, none⟩ = some (.bool a3)) := fun Y hY => by
                      have hwX := hbw.size
                      have y1 := (hY.cell (p := ⟨w.heap.size + 1, 0, none⟩) (by simp; omega)).trans zk1
                      obtain ⟨d0, d1, d2, d3⟩ := cells4 (hBr.below hY)
                      have n1 : w.heap.size + 1 ≠ W.heap.size := by omega
                      have n2 : b ≠ W.heap.size := by omega
                      exact ⟨⟨y1, d0, d1, d2, d3⟩, fun a e c d => ⟨(set4_cell n1 _ _ _ _ _ _).trans y1, (set4_cell n2 _ _ _ _ _ _).trans d0, (set4_cell n2 _ _ _ _ _ _).trans d1, (set4_cell n2 _ _ _ _ _ _).trans d2, (set4_cell n2 _ _ _ _ _ _).trans d3⟩⟩
                    have kk0 := (kk wc.drew (bl_drew (Below.refl _ _))).1
                    replace kk := Lib.hid kk
                    have zN' := Lib.hid (fun w6 (hb6 : Below wc.heap.size wc w6) => zN.below hb6)
                    have hd3 := Lib.hid (fun w6 (hb6 : Below wc.heap.size wc w6) => hd2 k' n' m' cc s w6 rfl (bl_trans hbw hb6))
                    have hcallW := Lib.hid (hcall wc.drew (bl_drew hbw))
                    have i4 : c1 = 1 ∨ ¬ c1 = 1 := by omega
                    clear i3 hd2 hcall hdone hpw hbw zN hBr zO zB zK e5 hr
                    go_upto_region 14 with (fail)
                    rcases i4 with rfl | i4
                    · obtain rfl : n = 1 := by omega
                      have hcallX : Calls Tryd.prog 60 #[.agg #[.int .i64 k, .bool a1, .bool a2, .bool a3], .slice (some ⟨g, 0, none⟩) 0 0] wc.drew (OrdIs (⟨k', n', m', s⟩, cc) wc.drew) := hcallW.out (some ⟨g, 0, none⟩) (.inr ⟨rfl, rfl⟩) 0
                      replace hcallX := Lib.hid hcallX
                      go_region_held3 (fun w' => w'.cell? ⟨w.heap.size + 1, 0, none⟩ = some (.slice (some ⟨g, 0, none⟩) 1 1) ∧ w'.cell? ⟨b, 0, none⟩ = some (.int .i64 k) ∧ w'.cell? ⟨b, 1, none⟩ = some (.bool a1) ∧ w'.cell? ⟨b, 2, none⟩ = some (.bool a2) ∧ w'.cell? ⟨b, 3, none⟩ = some (.bool a3)) (first | with_reducible exact kk0 | with_reducible exact kS.out.1 | with_reducible exact kS.out.2 _ _ _ _)
                        ((go_at_call 60; (with_reducible refine (hcallX.out).mono ?_); rintro e w6 ⟨rfl, hb6⟩; replace hb6 : Below wc.heap.size wc w6 := bl_trans (bl_drew (Below.refl _ _)) hb6; have gN := zN'.out _ hb6; have c6 := cells4 gN; have f6 := free4 gN; have l6 := gN.lt; have kS := Lib.hid (kk.out w6 hb6); replace gN := Lib.hid gN; replace hb6 := Lib.hid hb6))
                      all_goals go_wp2_with fail
                      all_goals go_meet
                      all_goals exact hd3.out _ hb6.out
                    · have hcallX := Lib.hid (hcallW.out (some ⟨g, 1, none⟩) (.inl rfl))
                      go_region_held3 (fun w' => w'.cell? ⟨w.heap.size + 1, 0, none⟩ = some (.slice (some ⟨g, 0, none⟩) n c1) ∧ w'.cell? ⟨b, 0, none⟩ = some (.int .i64 k) ∧ w'.cell? ⟨b, 1, none⟩ = some (.bool a1) ∧ w'.cell? ⟨b, 2, none⟩ = some (.bool a2) ∧ w'.cell? ⟨b, 3, none⟩ = some (.bool a3)) (first | with_reducible exact kk0 | with_reducible exact kS.out.1 | with_reducible exact kS.out.2 _ _ _ _)
                        ((go_at_call 60; (with_reducible refine (hcallX.out _).mono ?_); rintro e w6 ⟨rfl, hb6⟩; replace hb6 : Below wc.heap.size wc w6 := bl_trans (bl_drew (Below.refl _ _)) hb6; have gN := zN'.out _ hb6; have c6 := cells4 gN; have f6 := free4 gN; have l6 := gN.lt; have kS := Lib.hid (kk.out w6 hb6); replace gN := Lib.hid gN; replace hb6 := Lib.hid hb6))
                      all_goals go_wp2_with fail
                      all_goals go_meet
                      all_goals exact hd3.out _ hb6.out
                  · have hp : OM.parse L = (OM.none, 30) := by rw [hpw.out]; unfold OM.rest1; rw [if_neg e2.out, if_neg e3.out, if_neg e4.out, hr]
                    replace hp := Lib.hid hp
                    replace hr := Lib.hid hr
                    have cZ := cells4 zO
                    have fZ := free4 zO
                    replace zO := Lib.hid zO
                    replace zB := Lib.hid zB
                    replace zK := Lib.hid zK
                    clear hdone hpw hbw
                    go_wp2_with fail
                    exact ret4 (s := []) (by omega) hp.out zO.out zB.out zK.out
        case rest =>
          obtain ⟨k, n', m', s, cc, hp2, rfl, hN, ⟨y0, y1, y2, y3, hO'⟩, hB', hK'⟩ := hcut
          have cN' := cells4 hN
          have fN' := free4 hN
          have cO' := cells4 hO'
          have fO' := free4 hO'
          replace hp2 := Lib.hid hp2
          replace hN := Lib.hid hN
          replace hO' := Lib.hid hO'
          replace hB' := Lib.hid hB'
          replace hK' := Lib.hid hK'
          by_cases hcc : cc = 0
          · subst hcc
            go_wp2_with fail
            exact ret4 (by omega) (by rw [hp2.out]; rfl) hO'.out hB'.out hK'.out
          · have hcb : (cc != 0) = true := by simpa using hcc
            replace hcc := Lib.hid hcc
            go_wp2_with fail
            exact ret4 (s := []) (by omega) (by rw [hp2.out]; simp only [OM.fin, if_neg hcc.out]; rfl) hO'.out hB'.out hK'.out
end Go.Proofs.YtjfpepinmbbnbaaDoor
