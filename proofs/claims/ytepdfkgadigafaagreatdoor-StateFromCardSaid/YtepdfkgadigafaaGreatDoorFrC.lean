/-
  state.From of a list of ten texts; of chapter 20.
  Conditions: as each theorem states them.
-/
import Derived.Test.YtepdfkgadigafaaGreatDoorFrm2
import Derived.Test.YtepdfkgadigafaaGreatDoorFldC
import Derived.Test.YtepdfkgadigafaaGreatDoorCpB
import Derived.Test.YtepdfkgadigafaaGreatDoorSameG
import Derived.Test.YtepdfkgadigafaaGreatDoorDlD
import Derived.Test.YtepdfkgadigafaaGreatDoorDlC
import Derived.Test.YtepdfkgadigafaaGreatDoorStA
namespace Go.Proofs.YtepdfkgadigafaaGreatDoor
open Go.RowKit Go.Sort
set_option linter.unusedVariables false
set_option linter.unusedSimpArgs false
theorem from_list (a : Option Addr) (c : Nat) (l : List (List UInt8)) (w : World) (hp : Pow w) (hE : ErrAt w) (hl : l.length = 10) (hx : ∀ z ∈ l, z.length ≤ 20000) (h : TxAt (fun _ => True) false w a l) :
    Calls Tryz.prog 13 #[.slice a 10 c] w (FromIs (FM.fromS l) w) := by
  match l, hl with
  | [x0, x1, x2, x3, x4, x5, x6, x7, x8, x9], _ =>
    obtain ⟨b, o, rfl, hb, hc⟩ := tx_all h (by simp)
    obtain ⟨a0, c0, e0, k0, B0⟩ := hc 0 (by simp)
    obtain ⟨a1, c1, e1, k1, B1⟩ := hc 1 (by simp)
    obtain ⟨a2, c2, e2, k2, B2⟩ := hc 2 (by simp)
    obtain ⟨a3, c3, e3, k3, B3⟩ := hc 3 (by simp)
    obtain ⟨a4, c4, e4, k4, B4⟩ := hc 4 (by simp)
    obtain ⟨a5, c5, e5, k5, B5⟩ := hc 5 (by simp)
    obtain ⟨a6, c6, e6, k6, B6⟩ := hc 6 (by simp)
    obtain ⟨a7, c7, e7, k7, B7⟩ := hc 7 (by simp)
    obtain ⟨a8, c8, e8, k8, B8⟩ := hc 8 (by simp)
    obtain ⟨a9, c9, e9, k9, B9⟩ := hc 9 (by simp)
    exact from_ten b o c x0 x1 x2 x3 x4 x5 x6 x7 x8 x9 a0 a1 a2 a3 a4 a5 a6 a7 a8 a9 c0 c1 c2 c3 c4 c5 c6 c7 c8 c9 w hp hE hb h hx e0 k0 B0 e1 k1 B1 e2 k2 B2 e3 k3 B3 e4 k4 B4 e5 k5 B5 e6 k6 B6 e7 k7 B7 e8 k8 B8 e9 k9 B9
end Go.Proofs.YtepdfkgadigafaaGreatDoor
/-
  delta.States of any two states; of chapter 23. (Printed by gen_sts.py.)
  Conditions: as each theorem states them.
-/
namespace Go.Proofs.YtepdfkgadigafaaGreatDoor
open Go.RowKit Go.Sort
set_option linter.unusedVariables false
set_option linter.unusedSimpArgs false
attribute [local go_sem ↓] load_st store_st
/-- what is looked at of a state: its numbers, and that it is not great -/
structure LookV (V : StV) : Prop where
  sc : FM.ScI V.sc
  w64 : ∀ x ∈ V.waits, FM.I64 x.1
  gr : greatV V = false
theorem LookV.fit {V : StV} (h : LookV V) : FitV V := (small_of h.gr).fit h.w64
theorem LookV.len {V : StV} (h : LookV V) : Lens 9000 (FM.fieldsS V) := by
  have hs := small_of h.gr
  have h1 := waits_le V.waits h.w64
  have h2 := files_le V.files
  have h3 := nums_le (FM.scNums V.sc) (FM.nums64 h.sc)
  have h4 : (FM.scNums V.sc).length = 18 := rfl
  have h5 := hs.waits
  have h6 := hs.files
  have hg := h.gr
  unfold greatV at hg
  simp only [Bool.or_eq_false_iff, decide_eq_false_iff_not, Nat.not_lt] at hg
  obtain ⟨⟨⟨g1, g2⟩, g3⟩, g4⟩ := hg
  have gw : wV V = (V.waits.map fun x => x.2.length).sum := rfl
  have gf : fV V = (V.files.map fun x => x.2.length + x.1.length).sum := rfl
  have a := hs.pat; have b := hs.hold; have c := hs.rest; have d := hs.out; have e := hs.place; have f := hs.active; have g := hs.lacks
  have q1 : (FM.bitsT V.active).length = V.active.length := by simp [FM.bitsT]
  have q2 : (FM.bitsT V.lacks).length = V.lacks.length := by simp [FM.bitsT]
  have hall : ∀ x ∈ FM.fieldsS V, x.length ≤ 9000 := by
    intro x hx
    unfold FM.fieldsS at hx
    simp only [List.mem_cons, List.mem_nil_iff, or_false] at hx
    rcases hx with rfl | rfl | rfl | rfl | rfl | rfl | rfl | rfl | rfl | rfl <;> omega
  exact fun i hi => hall _ (List.getElem_mem hi)
/-- Fields of a state that is looked at -/
theorem fields_look {w : World} {s : StC} {V : StV} {lo hi_ : Nat} (hs : SIn lo hi_ s V w) (hp : Pow w) (h : LookV V) :
    Calls Tryz.prog 11 #[.agg s.cells.toArray] w fun e w' => ∃ a c, e = .returned (.slice a 10 c) ∧ TxAt (fun _ => True) false w' a (FM.fieldsS V) ∧ Below w.heap.size w w' := by
  refine (fields_any w s V hs hp h.sc h.w64 h.fit).mono ?_
  rintro e w' ⟨a, c, rfl, h1, h2⟩
  exact ⟨a, c, rfl, h1.tx.any, h2⟩
/-- what differs between two states -/
def dS (V V' : StV) : List DM.Chg := DM.betw 0 (FM.fieldsS V) (FM.fieldsS V')
set_option maxHeartbeats 4000000 in
set_option maxRecDepth 100000 in
theorem states_any (w : World) (s s' : StC) (V V' : StV) {lo hi_ lo' hi' : Nat} (h : SIn lo hi_ s V w) (h' : SIn lo' hi' s' V' w) (hp : Pow w) (hl : LookV V) (hl' : LookV V') :
    Calls Tryz.prog 9 #[.agg s.cells.toArray, .agg s'.cells.toArray] w fun e w' => ∃ a c, e = .returned (.slice a (dS V V').length c) ∧ ChAt (fun _ => True) w' a (dS V V') ∧ Below w.heap.size w w' := by
  have hf1 := fun X (hX : Below w.heap.size w X) => fields_look (h.below hX) (hp.below hX) hl
  have hf2 := fun X (hX : Below w.heap.size w X) => fields_look (h'.below hX) (hp.below hX) hl'
  obtain ⟨C, hC⟩ : ∃ C, s.cells = C := ⟨_, rfl⟩
  obtain ⟨C', hC'⟩ : ∃ C, s'.cells = C := ⟨_, rfl⟩
  obtain ⟨W1, hW1⟩ : ∃ W1, (w.alloc (.cells s.cells.toArray 34)).alloc (.cells s'.cells.toArray 34) = W1 := ⟨_, rfl⟩
  have bA : Blk W1 w.heap.size 34 s.cells := by rw [← hW1]; exact (Blk.new w _ _).alloc _
  have bB : Blk W1 (w.heap.size + 1) 34 s'.cells := by rw [← hW1]; simpa using Blk.new (w.alloc (.cells s.cells.toArray 34)) 34 s'.cells
  have hbW : Below w.heap.size w W1 := by rw [← hW1]; exact bl_alloc (bl_alloc (Below.refl _ _) _) _
  have hst := fun X (hX : Below W1.heap.size W1 X) => (⟨stLoad_is s (bA.below hX), stLoad_is s' (bB.below hX)⟩ : (stLoad ⟨w.heap.size, 0, none⟩).run Tryz.prog X = .ok (.agg s.cells.toArray) X ∧ (stLoad ⟨w.heap.size + 1, 0, none⟩).run Tryz.prog X = .ok (.agg s'.cells.toArray) X)
  rw [hC] at hf1 hst hW1 ⊢
  rw [hC'] at hf2 hst hW1 ⊢
  have hlx := hl.len
  have hly := hl'.len
  obtain ⟨xs, hxs⟩ : ∃ xs, FM.fieldsS V = xs := ⟨_, rfl⟩
  obtain ⟨ys, hys⟩ : ∃ ys, FM.fieldsS V' = ys := ⟨_, rfl⟩
  obtain ⟨ds, hds⟩ : ∃ ds, dS V V' = ds := ⟨_, rfl⟩
  have hdsv : DM.betw 0 xs ys = ds := by rw [← hds, ← hxs, ← hys]; rfl
  have hx10 : xs.length = 10 := by rw [← hxs]; rfl
  have hy10 : ys.length = 10 := by rw [← hys]; rfl
  rw [hxs] at hf1 hlx
  rw [hys] at hf2 hly
  rw [hds]
  have hbt := fun X (a b : Option Addr) (c d : Nat) (k1 : TxAt (fun _ => True) false X a xs) (k2 : TxAt (fun _ => True) false X b ys) => between_yes a b c d xs ys X (by omega) (by omega) (fun j hj => by have := hlx j hj; omega) (fun j hj => by have := hly j hj; omega) k1 k2
  rw [hdsv, hx10, hy10] at hbt
  clear h h' hp hl hl' hC hC' bA bB hlx hly hxs hys hds hdsv
  replace hf1 := Lib.hid hf1
  replace hf2 := Lib.hid hf2
  replace hst := Lib.hid hst
  replace hbt := Lib.hid hbt
  replace hW1 := Lib.hid hW1
  go_enter Tryz.func9, Tryz.ntmps9
  go_upto_region 1 with fail
  rw [hW1.out]
  have hb0 : Below W1.heap.size W1 W1.drew := bl_drew (Below.refl _ _)
  have hC0 := hst.out _ hb0
  refine region_till (fun X => (stLoad ⟨w.heap.size, 0, none⟩).run Tryz.prog X = .ok (.agg C.toArray) X ∧ (stLoad ⟨w.heap.size + 1, 0, none⟩).run Tryz.prog X = .ok (.agg C'.toArray) X) 9 (by kernel_rfl) ?_
  refine wpAnyT_take (i := 0) (v := (.agg C.toArray)) (some 8) rfl (by kernel_rfl) (by kernel_rfl) (by kernel_rfl) (by kernel_rfl) (fun _ _ _ h => absurd h np_panic) [9] (by kernel_rfl) (by kernel_rfl) (by kernel_rfl) (Or.inl ⟨by rfl, ?_⟩) hC0 ?_
  · intro X hX
    (obtain ⟨x0, x1⟩ := hX; go_simp)
  simp only [Act.put, List.setIfInBounds_toArray, List.set_cons_zero, List.set_cons_succ]
  refine wpAnyT_take (i := 2) (v := (.agg C'.toArray)) (some 10) rfl (by kernel_rfl) (by kernel_rfl) (by kernel_rfl) (by kernel_rfl) (fun _ _ _ h => absurd h np_panic) [9] (by kernel_rfl) (by kernel_rfl) (by kernel_rfl) (Or.inl ⟨by rfl, ?_⟩) hC0 ?_
  · intro X hX
    (obtain ⟨x0, x1⟩ := hX; go_simp)
  simp only [Act.put, List.setIfInBounds_toArray, List.set_cons_zero, List.set_cons_succ]
  refine wpAnyT_ready (rs := [1]) (by kernel_rfl) (by simp) ?_
  refine AllT.cons rfl (fun K hK => ?_) AllT.nil
  go_simp
  (go_at_call 11; (with_reducible refine (hf1.out _ (bl_trans hbW hb0)).mono ?_); rintro e X1 ⟨xa, xc, rfl, hx1, hy1⟩)
  have hb1 := bl_trans hb0 hy1
  have hC1 := hst.out _ hb1
  try simp only [go_sem]
  refine hK.out _ _ (fun _ => hC1) ?_
  clear hK K
  try simp only [Act.put, List.setIfInBounds_toArray, List.set_cons_zero, List.set_cons_succ]
  refine wpAnyT_ready (rs := [3]) (by kernel_rfl) (by simp) ?_
  refine AllT.cons rfl (fun K hK => ?_) AllT.nil
  go_simp
  (go_at_call 11; (with_reducible refine (hf2.out _ (bl_trans hbW hb1)).mono ?_); rintro e X2 ⟨ya, yc, rfl, hx2, hy2⟩)
  have hb2 := bl_trans hb1 hy2
  have hC2 := hst.out _ hb2
  try simp only [go_sem]
  refine hK.out _ _ (fun _ => hC2) ?_
  clear hK K
  try simp only [Act.put, List.setIfInBounds_toArray, List.set_cons_zero, List.set_cons_succ]
  refine wpAnyT_ready (rs := [4]) (by kernel_rfl) (by simp) ?_
  refine AllT.cons rfl (fun K hK => ?_) AllT.nil
  go_simp
  (go_at_call 20; (with_reducible refine (hbt.out _ _ _ _ _ (hx1.below hy2) hx2).mono ?_); rintro e X3 ⟨da, dc, rfl, hch, hy3⟩)
  have hb3 := bl_trans hb2 hy3
  have hC3 := hst.out _ hb3
  try simp only [go_sem]
  refine hK.out _ _ (fun _ => hC3) ?_
  clear hK K
  try simp only [Act.put, List.setIfInBounds_toArray, List.set_cons_zero, List.set_cons_succ]
  refine wpAnyT_ready (rs := [5]) (by kernel_rfl) (by simp) ?_
  refine AllT.cons rfl (fun K hK => ?_) AllT.nil
  go_simp
  refine hK.out _ _ (fun _ => hC3) ?_
  clear hK K
  try simp only [Act.put, List.setIfInBounds_toArray, List.set_cons_zero, List.set_cons_succ]
  refine wpAnyT_take (i := 6) (v := (.slice da ds.length dc)) (some 13) rfl (by kernel_rfl) (by kernel_rfl) (by kernel_rfl) (by kernel_rfl) (fun _ _ _ h => absurd h np_panic) [9] (by kernel_rfl) (by kernel_rfl) (by kernel_rfl) (Or.inl ⟨by rfl, ?_⟩) hC3 ?_
  · intro X hX
    (obtain ⟨x0, x1⟩ := hX; go_simp)
  simp only [Act.put, List.setIfInBounds_toArray, List.set_cons_zero, List.set_cons_succ]
  refine wpAnyT_take (i := 7) (v := (.bool true)) (some 14) rfl (by kernel_rfl) (by kernel_rfl) (by kernel_rfl) (by kernel_rfl) (fun _ _ _ h => absurd h np_panic) [9] (by kernel_rfl) (by kernel_rfl) (by kernel_rfl) (Or.inl ⟨by rfl, ?_⟩) hC3 ?_
  · intro X hX
    (obtain ⟨x0, x1⟩ := hX; go_simp)
  simp only [Act.put, List.setIfInBounds_toArray, List.set_cons_zero, List.set_cons_succ]
  refine wpAnyT_ready (rs := [8]) (by kernel_rfl) (by simp) ?_
  refine AllT.cons rfl (fun K hK => ?_) AllT.nil
  go_simp
  refine hK.out _ _ (fun _ => hC3) ?_
  clear hK K
  try simp only [Act.put, List.setIfInBounds_toArray, List.set_cons_zero, List.set_cons_succ]
  refine wpAnyT_ready (rs := [9]) (by kernel_rfl) (by simp) ?_
  refine AllT.cons rfl (fun K hK => ?_) AllT.nil
  go_simp
  refine hK.out _ _ (fun h => nomatch (Eq.trans (by kernel_rfl : true = _) h : true = false)) ?_
  clear hK K
  try simp only [Act.put, List.setIfInBounds_toArray, List.set_cons_zero, List.set_cons_succ]
  refine wpAnyT_done (by kernel_rfl) ⟨rfl, ?_⟩ _
  go_wp2_with fail
  all_goals go_ret
  all_goals exact ⟨_, ⟨_, rfl⟩, hch, bl_trans hbW hb3⟩
end Go.Proofs.YtepdfkgadigafaaGreatDoor
/-
  DeltaStates, of chapter 23: the walk.
  Conditions: as each theorem states them.
-/
namespace Go.Proofs.YtepdfkgadigafaaGreatDoor
open Go.RowKit Go.Sort
set_option linter.unusedVariables false
set_option linter.unusedSimpArgs false
attribute [local go_sem ↓] load_st store_st
theorem sc_I {c : Sc} (h : ScOk c) : FM.ScI c := ⟨h.line, h.last, h.next, h.opn, h.cur, h.missing, h.phase, h.pc, h.exit, h.stop, h.err⟩
theorem st_new8 (w : World) (s : StC) : ∃ w', (stStore ⟨w.heap.size, 0, none⟩ (.agg s.cells.toArray)).run Tryz.prog (w.alloc (.cells #[.slice none 0 0, .slice none 0 0, .bool false, .int .i64 0, .bool false, .int .i64 0, .int .i64 0, .int .i64 0, .int .i64 0, .int .i64 0, .slice none 0 0, .slice none 0 0, .bool false, .slice none 0 0, .bool false, .int .i64 0, .int .i64 0, .int .i64 0, .int .i64 0, .int .i64 0, .bool false, .bool false, .bool false, .slice none 0 0, .slice none 0 0, .slice none 0 0, .slice none 0 0] 34)) = .ok () w' ∧ Blk w' w.heap.size 34 s.cells ∧ Below w.heap.size w w' := by
  obtain ⟨w', h1, h2, h3⟩ := stStore_is s (w := w.alloc (.cells zeroC.cells.toArray 34)) (g := w.heap.size) (Blk.new w _ _) rfl
  exact ⟨w', h1, h2, Below.trans (bl_alloc (Below.refl _ _) _) (Only.below h3 (by simp) (fun i hi => by rw [hi]; exact Nat.le_refl _))⟩
theorem betw_nil : ∀ (i : Nat) (a b : List (List UInt8)), a.length = b.length → (DM.betw i a b = [] ↔ a = b)
  | i, [], b, h => by cases b with | nil => simp [DM.betw] | cons y b => simp at h
  | i, x :: a, b, h => by
    cases b with
    | nil => simp at h
    | cons y b =>
      have h' : a.length = b.length := by simpa using h
      have := betw_nil (i + 1) a b h'
      simp only [DM.betw]
      by_cases e : x = y
      · rw [if_pos e, this]; simp [e]
      · rw [if_neg e]; simp [e]
theorem ds_nil {V V' : StV} (h : LookV V) (h' : LookV V') : ((dS V V').length = 0) ↔ V = V' := by
  rw [List.length_eq_zero_iff]
  unfold dS
  rw [betw_nil 0 (FM.fieldsS V) (FM.fieldsS V') rfl]
  exact ⟨fun e => FM.fields_inj h.sc h.w64 h'.sc h'.w64 e, fun e => by rw [e]⟩
theorem betw_small8 : ∀ (B i : Nat) (a b : List (List UInt8)), (∀ x ∈ a, x.length ≤ B) → (∀ y ∈ b, y.length ≤ B) → ∀ c ∈ DM.betw i a b, c.old.length ≤ B ∧ c.new.length ≤ B := by
  intro B i a
  induction a generalizing i with
  | nil => intro b _ _ c hc; cases b <;> simp [DM.betw] at hc
  | cons x a ih =>
    intro b ha hb c hc
    cases b with
    | nil => simp [DM.betw] at hc
    | cons y b =>
      have ih' := ih (i + 1) b (fun z hz => ha z (by simp [hz])) (fun z hz => hb z (by simp [hz]))
      simp only [DM.betw] at hc
      split at hc
      · exact ih' c hc
      · rcases List.mem_cons.1 hc with rfl | hc
        · have h1 := ha x (by simp)
          have h2 := hb y (by simp)
          simp only [DM.one, List.length_take, List.length_drop]
          omega
        · exact ih' c hc
theorem ds_le {V V' : StV} (h : LookV V) (h' : LookV V') : (dS V V').length ≤ 10 ∧ ∀ i (hi : i < (dS V V').length), (dS V V')[i].old.length ≤ 9000 ∧ (dS V V')[i].new.length ≤ 9000 := by
  have h1 := betw_len 0 (FM.fieldsS V) (FM.fieldsS V')
  refine ⟨Nat.le_trans h1 (show (FM.fieldsS V).length ≤ 10 from Nat.le_refl 10), fun i hi => ?_⟩
  exact betw_small8 9000 0 (FM.fieldsS V) (FM.fieldsS V') (fun x hx => by obtain ⟨j, hj, rfl⟩ := List.mem_iff_getElem.1 hx; exact h.len j hj) (fun x hx => by obtain ⟨j, hj, rfl⟩ := List.mem_iff_getElem.1 hx; exact h'.len j hj) _ (List.getElem_mem hi)
set_option maxHeartbeats 8000000 in
set_option maxRecDepth 100000 in
theorem deltaStates_main (w : World) (s s' : StC) (V V' : StV) {lo hi_ lo' hi' : Nat} (h : SIn lo hi_ s V w) (h' : SIn lo' hi' s' V' w) (hp : Pow w) (hE : ErrAt w) (hk : ScOk V.sc) (hk' : ScOk V'.sc)
    (hfn : ∀ x ∈ V.files, x.1.length ≤ 140737488351232) (hfn' : ∀ x ∈ V'.files, x.1.length ≤ 140737488351232) (hl : LookV V) (hl' : LookV V') :
    Calls Tryz.prog 3 #[.agg s.cells.toArray, .agg s'.cells.toArray] w fun e w' => e = .returned (.bool true) ∧ Below w.heap.size w w' := by
  have hsm := small_of hl.gr
  have hsm' := small_of hl'.gr
  have big := fun (U : StV) (hU : SmallV U) => (⟨Nat.le_trans hU.waits (by decide), fun p hp => Nat.le_trans (hU.wait p hp) (by decide), Nat.le_trans hU.files (by decide), fun p hp => Nat.le_trans (hU.file p hp).1 (by decide)⟩ : U.waits.length ≤ 1000000 ∧ (∀ p ∈ U.waits, p.2.length ≤ 1000000) ∧ U.files.length ≤ 1000000 ∧ ∀ p ∈ U.files, p.2.length ≤ 1000000)
  obtain ⟨u1, u2, u3, u4⟩ := big V hsm
  obtain ⟨t1, t2, t3, t4⟩ := big V' hsm'
  obtain ⟨ds, hds⟩ : ∃ ds, dS V V' = ds := ⟨_, rfl⟩
  obtain ⟨xs, hxs⟩ : ∃ xs, FM.fieldsS V = xs := ⟨_, rfl⟩
  obtain ⟨ys, hys⟩ : ∃ ys, FM.fieldsS V' = ys := ⟨_, rfl⟩
  have hx10 : xs.length = 10 := by rw [← hxs]; rfl
  have hy10 : ys.length = 10 := by rw [← hys]; rfl
  have hdl := ds_le hl hl'
  have hdn := ds_nil hl hl'
  rw [hds] at hdl hdn
  have hap : DM.apply ds xs = some ys := by
    have := DM.apply_betw xs ys [] (by omega)
    rw [← hds]
    unfold dS
    rw [hxs, hys]
    simpa using this
  have hun : DM.undo ds ys = some xs := by
    rw [← hds]
    unfold dS
    rw [hxs, hys]
    exact DM.undo_betw xs ys (by omega)
  have lx := hl.len
  have ly := hl'.len
  have f1 := FM.from_fields V hl.sc hl.w64
  have f2 := FM.from_fields V' hl'.sc hl'.w64
  have g1 := fun X (hX : Below w.heap.size w X) => great_sin (h.below hX) hk hfn
  have g2 := fun X (hX : Below w.heap.size w X) => great_sin (h'.below hX) hk' hfn'
  rw [hl.gr] at g1
  rw [hl'.gr] at g2
  have hF1 := fun X (hX : Below w.heap.size w X) => fields_look (h.below hX) (hp.below hX) hl
  have hF2 := fun X (hX : Below w.heap.size w X) => fields_look (h'.below hX) (hp.below hX) hl'
  have hS := fun X (hX : Below w.heap.size w X) => states_any X s s' V V' (h.below hX) (h'.below hX) (hp.below hX) hl hl'
  rw [hxs] at hF1 lx f1
  rw [hys] at hF2 ly f2
  rw [hds] at hS
  obtain ⟨n, hn⟩ : ∃ n, ds.length = n := ⟨_, rfl⟩
  have hA := fun X (da la : Option Addr) (dc lc : Nat) (c1 : ChAt (fun _ => True) X da ds) (c2 : TxAt (fun _ => True) false X la xs) => apply_any da la ds xs dc lc X hdl.1 hdl.2 (by omega) lx c1 c2
  have hU := fun X (da la : Option Addr) (dc lc : Nat) (c1 : ChAt (fun _ => True) X da ds) (c2 : TxAt (fun _ => True) false X la ys) => undo_any da la ds ys dc lc X hdl.1 hdl.2 (by omega) ly c1 c2
  rw [hap, hn, hx10] at hA
  rw [hun, hn, hy10] at hU
  unfold Applied at hA hU
  dsimp only at hA hU
  rw [hy10] at hA
  rw [hx10] at hU
  rw [hn] at hS hdn
  have hR1 := fun X (hX : Below w.heap.size w X) (a : Option Addr) (c : Nat) (c1 : TxAt (fun _ => True) false X a ys) => from_list a c ys X (hp.below hX) (hE.below hX) hy10 (fun z hz => by obtain ⟨j, hj, rfl⟩ := List.mem_iff_getElem.1 hz; exact Nat.le_trans (ly j hj) (by decide)) c1
  have hR2 := fun X (hX : Below w.heap.size w X) (a : Option Addr) (c : Nat) (c1 : TxAt (fun _ => True) false X a xs) => from_list a c xs X (hp.below hX) (hE.below hX) hx10 (fun z hz => by obtain ⟨j, hj, rfl⟩ := List.mem_iff_getElem.1 hz; exact Nat.le_trans (lx j hj) (by decide)) c1
  rw [f2] at hR1
  rw [f1] at hR2
  unfold FromIs at hR1 hR2
  simp only [Option.isSome_some, Option.getD_some] at hR1 hR2
  have hm1 := fun X (hX : Below w.heap.size w X) (q : StC) (l1 l2 : Nat) (c1 : SIn l1 l2 q V' X) => same_dec X q s' V' V' c1 (h'.below hX) t1 t2 t3 t4 t1 t2 t3 t4
  have hm2 := fun X (hX : Below w.heap.size w X) (q : StC) (l1 l2 : Nat) (c1 : SIn l1 l2 q V X) => same_dec X q s V V c1 (h.below hX) u1 u2 u3 u4 u1 u2 u3 u4
  have hm3 := fun X (hX : Below w.heap.size w X) => same_dec X s s' V V' (h.below hX) (h'.below hX) u1 u2 u3 u4 t1 t2 t3 t4
  obtain ⟨EB, hEB⟩ : ∃ EB, decide (V = V') = EB := ⟨_, rfl⟩
  rw [decide_eq_true rfl] at hm1 hm2
  rw [hEB] at hm3
  have hnE : ((n : Int) == 0) = EB := by
    rw [← hEB, Bool.eq_iff_iff]
    simp only [beq_iff_eq, decide_eq_true_eq]
    rw [← hdn]; omega
  have haw := fun X => awake23_any X
  obtain ⟨W1, hW1⟩ : ∃ W1, (w.alloc (.cells s.cells.toArray 34)).alloc (.cells s'.cells.toArray 34) = W1 := ⟨_, rfl⟩
  have bA : Blk W1 w.heap.size 34 s.cells := by rw [← hW1]; exact (Blk.new w _ _).alloc _
  have bB : Blk W1 (w.heap.size + 1) 34 s'.cells := by rw [← hW1]; simpa using Blk.new (w.alloc (.cells s.cells.toArray 34)) 34 s'.cells
  have hbW : Below w.heap.size w W1 := by rw [← hW1]; exact bl_alloc (bl_alloc (Below.refl _ _) _) _
  have hst := fun X (hX : Below W1.heap.size W1 X) => (⟨stLoad_is s (bA.below hX), stLoad_is s' (bB.below hX)⟩ : (stLoad ⟨w.heap.size, 0, none⟩).run Tryz.prog X = .ok (.agg s.cells.toArray) X ∧ (stLoad ⟨w.heap.size + 1, 0, none⟩).run Tryz.prog X = .ok (.agg s'.cells.toArray) X)
  obtain ⟨C, hC⟩ : ∃ C, s.cells = C := ⟨_, rfl⟩
  obtain ⟨C', hC'⟩ : ∃ C, s'.cells = C := ⟨_, rfl⟩
  rw [hC] at g1 hF1 hS hm2 hm3 hst hW1 ⊢
  rw [hC'] at g2 hF2 hS hm1 hm3 hst hW1 ⊢
  clear h h' hp hE hk hk' hfn hfn' hl hl' hsm hsm' u1 u2 u3 u4 t1 t2 t3 t4 hap hun lx ly f1 f2 hC hC' bA bB hdl hdn hds hxs hys hEB hx10 hy10 hn big
  replace g1 := Lib.hid g1
  replace g2 := Lib.hid g2
  replace hF1 := Lib.hid hF1
  replace hF2 := Lib.hid hF2
  replace hS := Lib.hid hS
  replace hA := Lib.hid hA
  replace hU := Lib.hid hU
  replace hR1 := Lib.hid hR1
  replace hR2 := Lib.hid hR2
  replace hm1 := Lib.hid hm1
  replace hm2 := Lib.hid hm2
  replace hm3 := Lib.hid hm3
  replace hst := Lib.hid hst
  replace haw := Lib.hid haw
  replace hW1 := Lib.hid hW1
  replace hbW := Lib.hid hbW
  go_enter Tryz.func3, Tryz.ntmps3
  go_upto_region 1 with fail
  rw [hW1.out]
  clear hW1
  have hb := Below.refl W1.heap.size W1
  obtain ⟨L1, L2⟩ := hst.out _ hb
  go_upto_region 3 with (go_at_call 7; first
    | ((with_reducible refine (g1.out _ (bl_trans hbW.out hb)).mono ?_); rintro e X1 ⟨rfl, hy⟩; replace hb := bl_trans hb hy; clear hy; obtain ⟨L1, L2⟩ := hst.out _ hb)
    | ((with_reducible refine (g2.out _ (bl_trans hbW.out hb)).mono ?_); rintro e X1 ⟨rfl, hy⟩; replace hb := bl_trans hb hy; clear hy; obtain ⟨L1, L2⟩ := hst.out _ hb))
  go_upto_region 4 with (go_at_call 9; (with_reducible refine (hS.out _ (bl_trans hbW.out hb)).mono ?_); rintro e X2 ⟨da, dc, rfl, hch, hy⟩; replace hb := bl_trans hb hy; clear hy; obtain ⟨L1, L2⟩ := hst.out _ hb)
  replace hch := Lib.hid hch
  go_upto_region 5 with (first
    | (go_at_call 11; (with_reducible refine (hF1.out _ (bl_trans hbW.out hb)).mono ?_); rintro e X3 ⟨fa, fc, rfl, hf3, hy⟩; replace hb := bl_trans hb hy; replace hch := Lib.hid (hch.out.below hy); clear hy)
    | (go_at_call 10; (with_reducible refine (hA.out _ _ _ _ _ hch.out hf3).mono ?_); rintro e X4 ⟨xa, xc, rfl, hx4, hy⟩; replace hb := bl_trans hb hy; replace hch := Lib.hid (hch.out.below hy); clear hy hf3; obtain ⟨L1, L2⟩ := hst.out _ hb))
  replace hx4 := Lib.hid hx4.tx.any
  go_upto_region 6 with (first
    | (go_at_call 11; (with_reducible refine (hF2.out _ (bl_trans hbW.out hb)).mono ?_); rintro e X5 ⟨ga, gc, rfl, hf5, hy⟩; replace hb := bl_trans hb hy; replace hch := Lib.hid (hch.out.below hy); replace hx4 := Lib.hid (hx4.out.below hy); clear hy)
    | (go_at_call 12; (with_reducible refine (hU.out _ _ _ _ _ hch.out hf5).mono ?_); rintro e X6 ⟨ya, yc, rfl, hy6, hy⟩; replace hb := bl_trans hb hy; replace hx4 := Lib.hid (hx4.out.below hy); clear hy hf5 hch; obtain ⟨L1, L2⟩ := hst.out _ hb))
  replace hy6 := Lib.hid hy6.tx.any
  go_upto_region 9 with (go_at_call 13; (with_reducible refine (hR1.out _ (bl_trans hbW.out hb) _ _ hx4.out).mono ?_); rintro e X7 ⟨s1, rfl, hs7, hy⟩; obtain ⟨Z1, S1, hZ1, hbZ1⟩ := st_new8 X7 s1; replace hb := bl_trans (bl_trans hb hy) hbZ1; have hsi1 := Lib.hid (hs7.below hbZ1); have hyZ := Lib.hid ((hy6.out.below hy).below hbZ1); obtain ⟨L1, L2⟩ := hst.out _ hb; obtain ⟨D1, hD1⟩ : ∃ D, s1.cells.toArray = D := ⟨_, rfl⟩; rw [hD1] at S1 ⊢; clear hs7 hy hbZ1; replace hZ1 := Lib.hid hZ1; replace hD1 := Lib.hid hD1)
  go_upto_region 10 with (go_at_call 13; (with_reducible refine (hR2.out _ (bl_trans hbW.out hb) _ _ hyZ.out).mono ?_); rintro e X8 ⟨s2, rfl, hs8, hy⟩; obtain ⟨Z2, S2, hZ2, hbZ2⟩ := st_new8 X8 s2; replace hb := bl_trans (bl_trans hb hy) hbZ2; have hsi2 := Lib.hid (hs8.below hbZ2); replace hsi1 := Lib.hid ((hsi1.out.below hy).below hbZ2); replace hZ1 := Lib.hid ((hZ1.out.below hy).below hbZ2); obtain ⟨L1, L2⟩ := hst.out _ hb; obtain ⟨D2, hD2⟩ : ∃ D, s2.cells.toArray = D := ⟨_, rfl⟩; rw [hD2] at S2 ⊢; clear hs8 hy hbZ2 hyZ; replace hZ2 := Lib.hid hZ2; replace hD2 := Lib.hid hD2)
  have L3 := stLoad_is s1 hZ1.out
  have L4 := stLoad_is s2 hZ2.out
  rw [hD1.out] at L3
  rw [hD2.out] at L4
  have hq1 := fun X (hX : Below Z2.heap.size Z2 X) => hm1.out X (bl_trans hbW.out (bl_trans hb hX)) s1 _ _ (hsi1.out.below hX)
  have hq2 := fun X (hX : Below Z2.heap.size Z2 X) => hm2.out X (bl_trans hbW.out (bl_trans hb hX)) s2 _ _ (hsi2.out.below hX)
  have hq3 := fun X (hX : Below Z2.heap.size Z2 X) => hm3.out X (bl_trans hbW.out (bl_trans hb hX))
  have hL := fun X (hX : Below Z2.heap.size Z2 X) => (⟨stLoad_is s1 (hZ1.out.below hX), stLoad_is s2 (hZ2.out.below hX), hst.out _ (bl_trans hb hX)⟩ : (stLoad ⟨X7.heap.size, 0, none⟩).run Tryz.prog X = .ok (.agg s1.cells.toArray) X ∧ (stLoad ⟨X8.heap.size, 0, none⟩).run Tryz.prog X = .ok (.agg s2.cells.toArray) X ∧ (stLoad ⟨w.heap.size, 0, none⟩).run Tryz.prog X = .ok (.agg C.toArray) X ∧ (stLoad ⟨w.heap.size + 1, 0, none⟩).run Tryz.prog X = .ok (.agg C'.toArray) X)
  rw [hD1.out] at hq1 hL
  rw [hD2.out] at hq2 hL
  replace hq1 := Lib.hid hq1
  replace hq2 := Lib.hid hq2
  replace hq3 := Lib.hid hq3
  replace hL := Lib.hid hL
  have hd := Below.refl Z2.heap.size Z2
  clear hsi1 hsi2 hZ1 hZ2 hm1 hm2 hm3 hst hR1 hR2 hA hU hS hF1 hF2 g1 g2 hx4 hy6 hD1 hD2
  cases EB
  all_goals go_wp2_with (first
    | (go_at_call 14; first
      | ((with_reducible refine (hq1.out _ hd).mono ?_); rintro e Y1 ⟨rfl, hy⟩; replace hd := bl_trans hd hy; clear hy; obtain ⟨L3, L4, L1, L2⟩ := hL.out _ hd)
      | ((with_reducible refine (hq2.out _ hd).mono ?_); rintro e Y1 ⟨rfl, hy⟩; replace hd := bl_trans hd hy; clear hy; obtain ⟨L3, L4, L1, L2⟩ := hL.out _ hd)
      | ((with_reducible refine (hq3.out _ hd).mono ?_); rintro e Y1 ⟨rfl, hy⟩; replace hd := bl_trans hd hy; clear hy; obtain ⟨L3, L4, L1, L2⟩ := hL.out _ hd))
    | (go_at_call 8; (with_reducible refine (haw.out _).mono ?_); rintro e Y2 ⟨rfl, hy⟩; replace hd := bl_trans hd hy; clear hy))
  all_goals go_ret
  all_goals exact ⟨rfl, bl_trans hbW.out (bl_trans hb hd)⟩
end Go.Proofs.YtepdfkgadigafaaGreatDoor
/-
  A state that comes in: as sin_of, and that its waits' kinds fit 64 bits.
  Conditions: as each theorem states them.
-/
namespace Go.Proofs.YtepdfkgadigafaaGreatDoor
open Go.RowKit
set_option linter.unusedVariables false
set_option linter.unusedSimpArgs false
theorem kinds_of {W : World} {v : List Value} {xs : List (Int × List UInt8 × Unit)} (h : (rSlB rWait).ok (Sub.all W) v xs) : ∀ x ∈ xs, -9223372036854775808 ≤ x.1 ∧ x.1 ≤ 9223372036854775807 := by
  obtain ⟨a, c, e, hc, hl, hr⟩ := sl_of h
  intro x hx
  obtain ⟨i, hi, rfl⟩ := List.mem_iff_getElem.1 hx
  obtain ⟨b, o, ea, hrow⟩ := hr (by omega)
  obtain ⟨cs, ⟨c1, c2, e1, ⟨e2, hw⟩, _⟩, _⟩ := hrow i hi
  exact wf64 hw
theorem sin_of64 {W : World} {cs : List Value} {x} (h : rState.ok (Sub.all W) cs x) : ∃ s V, cs = s.cells ∧ SIn 0 W.heap.size s V W ∧ ScOk V.sc ∧ (∀ x ∈ V.files, x.1.length ≤ 140737488351232) ∧ ∀ x ∈ V.waits, -9223372036854775808 ≤ x.1 ∧ x.1 ≤ 9223372036854775807 := by
  obtain ⟨xr, xi, xo, x1, x2, x3, x4, x5, x6, x7, x8, x9, x10, x11, x12, xu⟩ := x
  obtain ⟨y1, y2, y3, y4, y5, y6, yu⟩ := xr
  obtain ⟨z1, z2, z3, z4, z5, zu⟩ := xi
  obtain ⟨v1, v2, v3, v4, vu⟩ := xo
  obtain ⟨p0, q0, r0, ⟨a1, k1, f1, g1, a2, k2, f2, g2, a3, k3, f3, g3, a4, k4, f4, ⟨g4, w4⟩, a5, k5, f5, g5, a6, k6, f6, ⟨g6, w6⟩, g7⟩, h⟩ := h
  obtain ⟨p1, q1, r1, ⟨b1, l1, i1, ⟨j1, u1⟩, b2, l2, i2, ⟨j2, u2⟩, b3, l3, i3, ⟨j3, u3⟩, b4, l4, i4, ⟨j4, u4⟩, b5, l5, i5, j5, j6⟩, h⟩ := h
  obtain ⟨p2, q2, r2, ⟨d1, m1, n1, o1, d2, m2, n2, o2, d3, m3, n3, o3, d4, m4, n4, o4, o5⟩, h⟩ := h
  obtain ⟨e1, s1, t1, ⟨c1, v1'⟩, e2, s2, t2, ⟨c2, v2'⟩, e3, s3, t3, ⟨c3, v3'⟩, e4, s4, t4, ⟨c4, v4'⟩, e5, s5, t5, ⟨c5, v5'⟩, e6, s6, t6, c6, e7, s7, t7, c7, e8, s8, t8, c8, e9, s9, t9, c9, e10, s10, t10, c10, e11, s11, t11, c11, e12, s12, t12, c12, c13⟩ := h
  obtain ⟨sp, pe, pB⟩ := tx_of g1
  obtain ⟨sh, he, hB⟩ := tx_of g2
  obtain ⟨sr, re, rB⟩ := tx_of j5
  obtain ⟨so, oe, oB⟩ := tx_of o1
  obtain ⟨sl, le, lB⟩ := tx_of o3
  obtain ⟨sa, ae, aB⟩ := bl_of c9
  obtain ⟨sw, we, wB⟩ := pr_of (A := rInt .i64) (f := kindV) (fun h => by obtain ⟨h1, _⟩ := h; exact h1) rfl c10
  obtain ⟨sf, fe, fB⟩ := pr_of (A := rStrB) (f := strV) (fun h => by obtain ⟨s, h1, h2, _⟩ := h; rw [h1, strV_eq h2]) rfl c11
  obtain ⟨sk, ke, kB⟩ := bl_of c12
  refine ⟨⟨sp, sh, y3, y4, y5, y6, z1, z2, z3, z4, sr, so, v2, sl, v4, x1, x2, x3, x4, x5, x6, x7, x8, sa, sw, sf, sk⟩, ⟨⟨y3, y4, y5, y6, z1, z2, z3, z4, v2, v4, x1, x2, x3, x4, x5, x6, x7, x8⟩, y1, y2, z5, v1, v3, x9, x12, x10.map fun x => (x.1, x.2.1), x11.map fun x => (x.1, x.2.1)⟩, ?_,
    ⟨Nat.le_refl _, rfl, pB, hB, rB, oB, lB, aB, kB, wB, fB⟩, ⟨wf64 w4, wf64 w6, wf64 u1, wf64 u2, wf64 u3, wf64 u4, wf64 v1', wf64 v2', wf64 v3', wf64 v4', wf64 v5'⟩, fun x hx => by obtain ⟨y, hy, rfl⟩ := List.mem_map.1 hx; exact names_of c11 y hy, fun x hx => by obtain ⟨y, hy, rfl⟩ := List.mem_map.1 hx; exact kinds_of c10 y hy⟩
  have g3' : a3 = [.bool y3] := g3
  have g5' : a5 = [.bool y5] := g5
  have g7' : k6 = [] := g7
  have j6' : l5 = [] := j6
  have o2' : d2 = [.bool v2] := o2
  have o4' : d4 = [.bool v4] := o4
  have o5' : m4 = [] := o5
  have c6' : e6 = [.bool x6] := c6
  have c7' : e7 = [.bool x7] := c7
  have c8' : e8 = [.bool x8] := c8
  have c13' : s12 = [] := c13
  rw [r0, f1, pe, f2, he, f3, g3', f4, g4, f5, g5', f6, g6, g7', r1, i1, j1, i2, j2, i3, j3, i4, j4, i5, re, j6', r2, n1, oe, n2, o2', n3, le, n4, o4', o5', t1, c1, t2, c2, t3, c3, t4, c4, t5, c5, t6, c6', t7, c7', t8, c8', t9, ae, t10, we, t11, fe, t12, ke, c13']
  rfl
end Go.Proofs.YtepdfkgadigafaaGreatDoor
/-
  DeltaStates at data that come in: the walk, as the frame takes it; of chapter 23.
  Conditions: as each theorem states them.
-/
namespace Go.Proofs.YtepdfkgadigafaaGreatDoor
open Go.RowKit Go.Sort
set_option linter.unusedVariables false
set_option linter.unusedSimpArgs false
attribute [local go_sem ↓] load_st store_st
set_option maxHeartbeats 4000000 in
set_option maxRecDepth 100000 in
theorem deltaStates_great (w : World) (s s' : StC) (V V' : StV) {lo hi_ lo' hi' : Nat} (h : SIn lo hi_ s V w) (h' : SIn lo' hi' s' V' w) (hk : ScOk V.sc) (hk' : ScOk V'.sc)
    (hfn : ∀ x ∈ V.files, x.1.length ≤ 140737488351232) (hfn' : ∀ x ∈ V'.files, x.1.length ≤ 140737488351232) (hg : (greatV V || greatV V') = true) :
    Calls Tryz.prog 3 #[.agg s.cells.toArray, .agg s'.cells.toArray] w fun e w' => e = .returned (.bool true) ∧ Below w.heap.size w w' := by
  have g1 := fun X (hX : Below w.heap.size w X) => great_sin (h.below hX) hk hfn
  have g2 := fun X (hX : Below w.heap.size w X) => great_sin (h'.below hX) hk' hfn'
  have haw := fun X => awake23_any X
  obtain ⟨W1, hW1⟩ : ∃ W1, (w.alloc (.cells s.cells.toArray 34)).alloc (.cells s'.cells.toArray 34) = W1 := ⟨_, rfl⟩
  have bA : Blk W1 w.heap.size 34 s.cells := by rw [← hW1]; exact (Blk.new w _ _).alloc _
  have bB : Blk W1 (w.heap.size + 1) 34 s'.cells := by rw [← hW1]; simpa using Blk.new (w.alloc (.cells s.cells.toArray 34)) 34 s'.cells
  have hbW : Below w.heap.size w W1 := by rw [← hW1]; exact bl_alloc (bl_alloc (Below.refl _ _) _) _
  have hst := fun X (hX : Below W1.heap.size W1 X) => (⟨stLoad_is s (bA.below hX), stLoad_is s' (bB.below hX)⟩ : (stLoad ⟨w.heap.size, 0, none⟩).run Tryz.prog X = .ok (.agg s.cells.toArray) X ∧ (stLoad ⟨w.heap.size + 1, 0, none⟩).run Tryz.prog X = .ok (.agg s'.cells.toArray) X)
  obtain ⟨C, hC⟩ : ∃ C, s.cells = C := ⟨_, rfl⟩
  obtain ⟨C', hC'⟩ : ∃ C, s'.cells = C := ⟨_, rfl⟩
  rw [hC] at g1 hst hW1 ⊢
  rw [hC'] at g2 hst hW1 ⊢
  generalize greatV V = G1 at *
  generalize greatV V' = G2 at *
  clear h h' hk hk' hfn hfn' hC hC' bA bB
  replace g1 := Lib.hid g1
  replace g2 := Lib.hid g2
  replace hst := Lib.hid hst
  replace haw := Lib.hid haw
  replace hW1 := Lib.hid hW1
  replace hbW := Lib.hid hbW
  go_enter Tryz.func3, Tryz.ntmps3
  go_upto_region 1 with fail
  rw [hW1.out]
  clear hW1
  have hb := Below.refl W1.heap.size W1
  obtain ⟨L1, L2⟩ := hst.out _ hb
  cases G1 <;> cases G2
  · simp at hg
  all_goals go_wp2_with (first
    | (go_at_call 7; first
      | ((with_reducible refine (g1.out _ (bl_trans hbW.out hb)).mono ?_); rintro e X1 ⟨rfl, hy⟩; replace hb := bl_trans hb hy; clear hy; obtain ⟨L1, L2⟩ := hst.out _ hb)
      | ((with_reducible refine (g2.out _ (bl_trans hbW.out hb)).mono ?_); rintro e X1 ⟨rfl, hy⟩; replace hb := bl_trans hb hy; clear hy; obtain ⟨L1, L2⟩ := hst.out _ hb))
    | (go_at_call 8; (with_reducible refine (haw.out _).mono ?_); rintro e Y2 ⟨rfl, hy⟩; replace hb := bl_trans hb hy; clear hy))
  all_goals go_ret
  all_goals exact ⟨rfl, bl_trans hbW.out hb⟩
theorem deltaStates_walk (W : World) (hpE : Pow W ∧ ErrAt W) (cs0 : Array Value) (x0 : _) (rd0 : rState.ok (Sub.all W) cs0.toList x0) (cs1 : Array Value) (x1 : _) (rd1 : rState.ok (Sub.all W) cs1.toList x1) :
    Calls Tryz.prog 3 #[.agg cs0, .agg cs1] W fun e w' => e = .returned (.bool true) ∧ Below W.heap.size W w' := by
  obtain ⟨s, V, e1, h, hk, hfn, hw⟩ := sin_of64 rd0
  obtain ⟨s', V', e2, h', hk', hfn', hw'⟩ := sin_of64 rd1
  obtain ⟨c1⟩ := cs0
  obtain ⟨c2⟩ := cs1
  simp only at e1 e2
  subst e1 e2
  by_cases hg : (greatV V || greatV V') = true
  · exact deltaStates_great W s s' V V' h h' hk hk' hfn hfn' hg
  · simp only [Bool.or_eq_true, not_or, Bool.not_eq_true] at hg
    exact deltaStates_main W s s' V V' h h' hpE.1 hpE.2 hk hk' hfn hfn' ⟨sc_I hk, hw, hg.1⟩ ⟨sc_I hk', hw', hg.2⟩
end Go.Proofs.YtepdfkgadigafaaGreatDoor
