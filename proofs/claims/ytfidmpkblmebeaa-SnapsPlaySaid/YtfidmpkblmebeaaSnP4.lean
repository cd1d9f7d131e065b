/-
  The steps of chapter 25's play: offers and keeps, here and in the document's answer; an operation in memory.
  Conditions: as each theorem states them.
-/
import Derived.Test.YtfidmpkblmebeaaSnP3
namespace Go.Proofs.Ytfidmpkblmebeaa
open Go.RowKit
set_option linter.unusedVariables false
set_option linter.unusedSimpArgs false
attribute [local go_sem ↓] load_st store_st
/-- what is kept, the blocks from c1 to c2 left out -/
def KeptC (B c1 c2 : Nat) (w : World) (L : List (Int × StC)) (M : List (Int × StV)) : Prop := Rel2 (fun s V => (SIn B c1 s V w ∨ SIn c2 w.heap.size s V w) ∧ SmallV V) L M
theorem KeptC.only {K : Nat → Prop} {B c1 c2 : Nat} {w w' : World} {L : List (Int × StC)} {M : List (Int × StV)} (h : KeptC B c1 c2 w L M) (hB : B ≤ c1) (h12 : c1 ≤ c2) (ho : Only K w w') (hK : ∀ k, B ≤ k → k < w.heap.size → ¬ K k) : KeptC B c1 c2 w' L M :=
  h.mono fun a b h => ⟨h.1.elim (fun h => .inl (h.keep (KeepI.only ho h.top (fun k a b => hK k a (Nat.lt_of_lt_of_le b h.top))))) (fun h => .inr ((h.keep (KeepI.only ho h.top (fun k a b => hK k (by omega) b))).wide (Nat.le_refl _) ho.size (Nat.le_refl _))), h.2⟩
theorem Kept2.c {B c1 c2 : Nat} {w w' : World} {L : List (Int × StC)} {M : List (Int × StV)} (h : Kept2 B w L M) (hb : Below w.heap.size w w') (h1 : w.heap.size ≤ c1) (h2 : c1 ≤ w'.heap.size) : KeptC B c1 c2 w' L M :=
  h.mono fun a b h => ⟨.inl ((h.1.below hb).wide (Nat.le_refl _) h1 h2), h.2⟩
theorem KeptC.k2 {B c1 c2 : Nat} {w w' : World} {L : List (Int × StC)} {M : List (Int × StV)} (h : KeptC B c1 c2 w L M) (hB : B ≤ c1) (h12 : c1 ≤ c2) (ho : Only (fun b => c1 ≤ b ∧ b < c2) w w') : Kept2 B w' L M :=
  h.mono fun a b h => ⟨h.1.elim (fun h => (h.keep (KeepI.only ho h.top (fun k a b c => by have := c.1; omega))).wide (Nat.le_refl _) (Nat.le_trans h.top ho.size) (Nat.le_refl _)) (fun h => (h.keep (KeepI.only ho h.top (fun k a b c => by have := c.2; omega))).wide (by omega) ho.size (Nat.le_refl _)), h.2⟩
def noOf (period : Int) (M : List (Int × StV)) (k : Int) : Bool := decide (k < 0) || k % period != 0 || SM.has M k
def offM (b : Bool) (k : Int) (V : StV) (M : List (Int × StV)) : List (Int × StV) := if b then M else SM.put k V M
theorem offM_len (b : Bool) (k : Int) (V : StV) (M : List (Int × StV)) : (offM b k V M).length ≤ M.length + 1 := by
  cases b
  · show (SM.put k V M).length ≤ _; rw [SM.put_len]; exact Nat.le_refl _
  · exact Nat.le_succ _
theorem no_of {B c1 c2 : Nat} {w : World} {L : List (Int × StC)} {M : List (Int × StV)} (h : KeptC B c1 c2 w L M) (period k : Int) : offerNo period L k = noOf period M k := by
  unfold offerNo noOf
  rw [h.has k]
def RCopyC : Prop := ∀ (w : World) (s : StC) (V : StV) (lo hi : Nat), SIn lo hi s V w → SmallV V → Calls Try.prog 8 #[.agg s.cells.toArray] w fun e w' => ∃ s' : StC, e = .returned (.agg s'.cells.toArray) ∧ SIn w.heap.size w'.heap.size s' V w' ∧ Below w.heap.size w w'
/-- the reference's snapshots, their row apart from the blocks from c1 to c2 -/
structure RefC (B c1 c2 : Nat) (w : World) (xb : Nat) (period : Int) (L : List (Int × StC)) : Prop where
  low : xb < B
  ex : ∃ a c, Blk w xb 31 [.int .i64 period, .slice a L.length c] ∧ w.ownsRow B 54 28 (.slice a L.length c) L.length (rowsR L) ∧ ∀ b, (Value.slice a L.length c).ownBlock = some b → b < c1 ∨ c2 ≤ b
theorem RefC.ref {B c1 c2 xb : Nat} {w : World} {period : Int} {L : List (Int × StC)} (h : RefC B c1 c2 w xb period L) : RefAt w xb B period L := by
  obtain ⟨h0, a, c, h1, h2, _⟩ := h
  exact ⟨h0, a, c, h1, h2⟩
theorem RefC.only {K : Nat → Prop} {B c1 c2 xb : Nat} {w w' : World} {period : Int} {L : List (Int × StC)} (h : RefC B c1 c2 w xb period L) (ho : Only K w w') (hx : ¬ K xb) (hK : ∀ b, B ≤ b → b < w.heap.size → ¬ K b) : RefC B c1 c2 w' xb period L := by
  obtain ⟨h0, a, c, h1, h2, h3⟩ := h
  exact ⟨h0, a, c, h1.only ho hx, own_only h2 ho hK, h3⟩
theorem RefC.of {B c1 c2 xb : Nat} {w w' : World} {period : Int} {L : List (Int × StC)} (h : RefAt w xb B period L) (hb : Below w.heap.size w w') (h1 : w.heap.size ≤ c1) : RefC B c1 c2 w' xb period L := by
  obtain ⟨h0, a, c, k1, k2⟩ := h
  exact ⟨h0, a, c, k1.below hb, own_below k2 hb, fun b e => .inl (Nat.lt_of_lt_of_le (k2.lt b e).2 h1)⟩
theorem RefC.new {B c1 c2 xb N : Nat} {w : World} {period : Int} {L : List (Int × StC)} (h : RefAt w xb N period L) (h0 : xb < B) (h1 : B ≤ N) (h2 : c2 ≤ N) : RefC B c1 c2 w xb period L := by
  obtain ⟨_, a, c, k1, k2⟩ := h
  exact ⟨h0, a, c, k1, own_low k2 h1, fun b e => .inr (Nat.le_trans h2 (k2.lt b e).1)⟩
theorem RefC.back {B c1 c2 xb : Nat} {w w' : World} {period : Int} {L : List (Int × StC)} (h : RefC B c1 c2 w xb period L) (ho : Only (fun b => c1 ≤ b ∧ b < c2) w w') (hx : xb < c1) : RefAt w' xb B period L := by
  obtain ⟨h0, a, c, k1, k2, k3⟩ := h
  refine ⟨h0, a, c, k1.only ho (by show ¬ (c1 ≤ xb ∧ xb < c2); omega), k2.1, ?_⟩
  rcases k2.2 with k | ⟨g, cap, cur, e, k4, k5, k6⟩
  · exact .inl k
  · have hl := (Array.getElem?_eq_some_iff.1 k5).1
    have hg := k3 g (by rw [e]; rfl)
    exact .inr ⟨g, cap, cur, e, k4, (ho.block g hl (by show ¬ (c1 ≤ g ∧ g < c2); omega)).trans k5, k6⟩
theorem poffer_k {X : World} {p mb n B c1 c2 lo hi : Nat} {period : Int} {L : List (Int × StC)} {M : List (Int × StV)} (HC : CopyC) (hS : SnAt X p mb n period L) (hn : n < 100000) (hper : 1 ≤ period ∧ period ≤ 1000) (k : Int) (hk : -9223372036854775808 ≤ k ∧ k ≤ 9223372036854775807) (s : StC) (V : StV) (hs : SIn lo hi s V X) (hm : SmallV V)
    (hK : KeptC B c1 c2 X L M) (hB : B ≤ c1) (h12 : c1 ≤ c2) (h2X : c2 ≤ X.heap.size) (hmb : mb < B) :
    Calls Try.prog 9 #[.pointer (some ⟨p, 0, none⟩), .int .i64 k, .agg s.cells.toArray] X fun e w' => e = .returned (.bool (!noOf period M k)) ∧ ∃ n' L', n' ≤ n + 1 ∧ SnAt w' p mb n' period L' ∧ KeptC B c1 c2 w' L' (offM (noOf period M k) k V M) ∧ Only (fun i => i = mb) X w' := by
  refine (offer_any hS hn hper k hk s (Q := fun s' n W => SIn n W.heap.size s' V W) (fun Y hY => HC Y s V lo hi (hs.below hY) hm)).mono ?_
  intro e w' h
  unfold OfferIs at h
  rw [no_of hK] at h
  rcases h with ⟨h0, rfl, hb⟩ | ⟨h0, rfl, s', n5, w5, h5, hn5, hb5, hO, hS'⟩
  · rw [h0]
    exact ⟨rfl, n, L, Nat.le_succ _, hS.below hb, hK.only hB h12 (K := fun _ => False) (Only.of_below hb) (fun _ _ _ h => h), Only.of_below hb⟩
  · rw [h0]
    have hO' : Only (fun i => i = mb) X w' := (Only.of_below hb5).trans hO
    refine ⟨rfl, n + 1, _, Nat.le_refl _, hS', ?_, hO'⟩
    refine (hK.only hB h12 hO' (fun j h1 _ h3 => by have h3' : j = mb := h3; omega)).put k ⟨.inr ?_, hm⟩
    exact (h5.keep (KeepI.only hO (Nat.le_refl _) (fun j h1 _ h3 => by have h3' : j = mb := h3; omega))).wide (by omega) hO.size (Nat.le_refl _)
theorem roffer_k {X : World} {xb B c1 c2 lo hi : Nat} {period : Int} {L : List (Int × StC)} {M : List (Int × StV)} (HC : RCopyC) (hX : RefC B c1 c2 X xb period L) (hl : L.length ≤ 100000) (hper : 1 ≤ period ∧ period ≤ 1000) (k : Int) (s : StC) (V : StV) (hs : SIn lo hi s V X) (hm : SmallV V)
    (hK : KeptC B c1 c2 X L M) (hB : B ≤ c1) (h12 : c1 ≤ c2) (h2X : c2 ≤ X.heap.size) :
    Calls Try.prog 10 #[.pointer (some ⟨xb, 0, none⟩), .int .i64 k, .agg s.cells.toArray] X fun e w' => e = .returned (.bool (!noOf period M k)) ∧ ∃ L', RefC B c1 c2 w' xb period L' ∧ KeptC B c1 c2 w' L' (offM (noOf period M k) k V M) ∧ Only (fun i => i = xb) X w' := by
  have hxb := hX.low
  refine (roffer_any hX.ref hl (by omega) hper k s V (fun Y hY => HC Y s V lo hi (hs.below hY) hm)).mono ?_
  intro e w' h
  unfold ROfferIs at h
  rw [no_of hK] at h
  rcases h with ⟨h0, rfl, hb⟩ | ⟨h0, rfl, s', h5, hX', hO⟩
  · rw [h0]
    exact ⟨rfl, L, hX.only (K := fun _ => False) (Only.of_below hb) id (fun _ _ _ => id), hK.only hB h12 (K := fun _ => False) (Only.of_below hb) (fun _ _ _ h => h), Only.of_below hb⟩
  · rw [h0]
    exact ⟨rfl, _, .new hX' hxb (by omega) h2X, (hK.only hB h12 hO (fun j h1 _ h3 => by have h3' : j = xb := h3; omega)).put k ⟨.inr (h5.wide h2X (Nat.le_refl _) (Nat.le_refl _)), hm⟩, hO⟩
theorem pkeep_k {X : World} {p mb n B c1 c2 : Nat} {period : Int} {L : List (Int × StC)} {M : List (Int × StV)} (hS : SnAt X p mb n period L) (hl : L.length ≤ 100000) (lo hi : Int) (hK : KeptC B c1 c2 X L M) (hB : B ≤ c1) (h12 : c1 ≤ c2) (hmb : mb < B) :
    Calls Try.prog 11 #[.pointer (some ⟨p, 0, none⟩), .int .i64 lo, .int .i64 hi] X fun e w' => e = .returned (.int .i64 ((M.length - (SM.keep M lo hi).length : Nat) : Int)) ∧ ∃ L', SnAt w' p mb n period L' ∧ KeptC B c1 c2 w' L' (SM.keep M lo hi) ∧ Only (fun i => i = mb) X w' := by
  refine (keep_any hS hl lo hi).mono ?_
  rintro e w' ⟨rfl, hS', hO⟩
  rw [hK.len, (hK.keep lo hi).len]
  exact ⟨rfl, _, hS', Rel2.keep (hK.only hB h12 hO (fun j h1 _ h3 => by have h3' : j = mb := h3; omega)) lo hi, hO⟩
theorem rkeep_k {X : World} {xb B c1 c2 : Nat} {period : Int} {L : List (Int × StC)} {M : List (Int × StV)} (hX : RefC B c1 c2 X xb period L) (hl : L.length ≤ 100000) (lo hi : Int) (hK : KeptC B c1 c2 X L M) (hB : B ≤ c1) (h12 : c1 ≤ c2) (h2X : c2 ≤ X.heap.size) :
    Calls Try.prog 12 #[.pointer (some ⟨xb, 0, none⟩), .int .i64 lo, .int .i64 hi] X fun e w' => e = .returned (.int .i64 ((M.length - (SM.keep M lo hi).length : Nat) : Int)) ∧ ∃ L', RefC B c1 c2 w' xb period L' ∧ KeptC B c1 c2 w' L' (SM.keep M lo hi) ∧ Only (fun i => i = xb) X w' := by
  have hxb := hX.low
  refine (rkeep_any hX.ref hl (by omega) lo hi).mono ?_
  rintro e w' ⟨rfl, hX', hO⟩
  rw [hK.len, (hK.keep lo hi).len]
  exact ⟨rfl, _, .new hX' hxb (by omega) h2X, Rel2.keep (hK.only hB h12 hO (fun j h1 _ h3 => by have h3' : j = xb := h3; omega)) lo hi, hO⟩
/-- an operation -/
structure OpV where
  kind : Int
  n : Int
  m : Int
  s : StC
  V : StV
def OpV.cells (o : OpV) : List Value := .int .i64 o.kind :: .int .i64 o.n :: .int .i64 o.m :: o.s.cells
theorem OpV.len (o : OpV) : o.cells.length = 30 := rfl
theorem OpV.one (o : OpV) : ∀ u ∈ o.cells, u.oneCell' = true := by
  intro u hu
  rcases List.mem_cons.1 hu with rfl | hu
  · rfl
  rcases List.mem_cons.1 hu with rfl | hu
  · rfl
  rcases List.mem_cons.1 hu with rfl | hu
  · rfl
  exact o.s.one u hu
noncomputable def opLoad (a : Addr) : Sem Value := loadVar 45 a
theorem load_op (a : Addr) : loadVar 45 a = opLoad a := rfl
noncomputable def opStore (a : Addr) (v : Value) : Sem Unit := storeVar 45 a v
theorem store_op (a : Addr) (v : Value) : storeVar 45 a v = opStore a v := rfl
theorem opStore_is {w : World} {g : Nat} {old : List Value} (s : OpV) (h : Blk w g 45 old) (hl : old.length = 30) :
    ∃ w', (opStore ⟨g, 0, none⟩ (.agg s.cells.toArray)).run Try.prog w = .ok () w' ∧ Blk w' g 45 s.cells ∧ Only (fun k => k = g) w w' := by
  have h1 := s.one
  have hC := s.len
  generalize s.cells = C at *
  have := run_storeVar_mid (P := Try.prog) w g 0 45 C.toArray (fun j hj => ⟨by
    rw [Nat.zero_add, h.cell, List.getElem?_eq_getElem (by simp only [List.size_toArray] at hj; omega)]; rfl, by rw [Nat.zero_add]; exact h.free _⟩) (by simp only [List.size_toArray, hC]; kernel_rfl) (all_oneCell_toArray h1)
  refine ⟨_, this, ?_, only_setCells _ 0 w⟩
  simp only
  obtain ⟨c', h2, h3, _⟩ := Blk.setCells C 0 h
  have hc : c' = C := by
    apply List.ext_getElem?
    intro i
    by_cases hi : i < 30
    · have hr := World.rangeAt_setCells_same w g 0 C (fun j hj => ⟨by
        rw [Nat.zero_add, h.cell, List.getElem?_eq_getElem (by omega)]; rfl, by rw [Nat.zero_add]; exact h.free _⟩) i _ (List.getElem?_eq_getElem (by omega))
      rw [Nat.zero_add, h2.cell] at hr
      rw [hr, List.getElem?_eq_getElem]
    · rw [List.getElem?_eq_none (by omega), List.getElem?_eq_none (by omega)]
  rw [hc] at h2
  exact h2
/-- the state of an operation in a block of its own -/
theorem op_st {w : World} {g : Nat} (o : OpV) (h : Blk w g 45 o.cells) : (stLoad ⟨g, 3, none⟩).run Try.prog w = .ok (.agg o.s.cells.toArray) w :=
  run_loadVar_mid w g 3 43 o.s.cells _ (fun j u hu => by rw [h.cell, show 3 + j = j + 1 + 1 + 1 by omega]; exact hu) Try.underlying43 rfl (by kernel_rfl)
abbrev rOp := rPair (rInt .i64) (rPair (rInt .i64) (rPair (rInt .i64) (rPair rState rUnit)))
/-- an operation that comes in -/
structure OpIn (W : World) (o : OpV) : Prop where
  s : SIn 0 W.heap.size o.s o.V W
  ok : ScOk o.V.sc
  names : ∀ x ∈ o.V.files, x.1.length ≤ 140737488351232
  n : -9223372036854775808 ≤ o.n ∧ o.n ≤ 9223372036854775807
theorem op_of {W : World} {cs : List Value} {x} (h : rOp.ok (Sub.all W) cs x) : ∃ o : OpV, cs = o.cells ∧ OpIn W o := by
  obtain ⟨x1, x2, x3, x4, xu⟩ := x
  obtain ⟨p0, q0, r0, ⟨h1, k1⟩, p1, q1, r1, ⟨h2, k2⟩, p2, q2, r2, ⟨h3, k3⟩, p3, q3, r3, h4, h5⟩ := h
  obtain ⟨s, V, e, hs, hok, hn⟩ := sin_of h4
  have h5' : q3 = [] := h5
  exact ⟨⟨x1, x2, x3, s, V⟩, by rw [r0, h1, r1, h2, r2, h3, r3, e, h5']; simp [OpV.cells], hs, hok, hn, wf64 k2⟩
theorem op_load {W : World} {b o : Nat} {x : OpV} (h : CellsAt (Sub.all W) b o x.cells) {X : World} (hb : Below W.heap.size W X) : (opLoad ⟨b, o, none⟩).run Try.prog X = .ok (.agg x.cells.toArray) X :=
  run_loadVar_mid X b o 45 x.cells _ (fun j u hu => by
    have hj : j < x.cells.length := (List.getElem?_eq_some_iff.1 hu).1
    have := h.cell (Sub.all_in W) (j := j) hj
    rw [hb.cell (h.lt (Sub.all_in W)), this, ← hu, List.getElem?_eq_getElem hj]) Try.underlying45 rfl (by kernel_rfl)
end Go.Proofs.Ytfidmpkblmebeaa
