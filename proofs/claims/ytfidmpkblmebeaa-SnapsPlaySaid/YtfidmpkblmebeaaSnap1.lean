/-
  Snaps: New, Offer, told; of chapter 25.
  Conditions: as each theorem states them.
-/
import Derived.Test.YtfidmpkblmebeaaCopyB
namespace Go.Proofs.Ytfidmpkblmebeaa
open Go.RowKit
set_option linter.unusedVariables false
set_option linter.unusedSimpArgs false
attribute [local go_sem ↓] load_st store_st
theorem new_no (w : World) (k : Int) (h : k < 1 ∨ 1000 < k) : Calls Try.prog 5 #[.int .i64 k] w fun e w' => e = .returned (.tuple #[.pointer none, .int .i64 3]) ∧ w = w' := by
  rcases Int.lt_or_le k 1 with h1 | h1
  · have q0 : decide (k < 1) = true := by simpa using h1
    go_enter Try.func5, Try.ntmps5
    go_wp2_with fail
    go_ret2
    exact ⟨rfl, rfl⟩
  · have q0 : decide (k < 1) = false := by simpa using h1
    have q1 : decide (1000 < k) = true := by simp; omega
    go_enter Try.func5, Try.ntmps5
    go_wp2_with fail
    go_ret2
    exact ⟨rfl, rfl⟩
/-- the snapshots in memory -/
structure SnAt (w : World) (p mb n : Nat) (period : Int) (L : List (Int × StC)) : Prop where
  blk : Blk w p 61 [.int .i64 period, .map (some mb)]
  map : KMap w mb n L
  rise : SM.Rising L
  keys : ∀ x ∈ L, -9223372036854775808 ≤ x.1 ∧ x.1 ≤ 9223372036854775807
theorem SnAt.only {K : Nat → Prop} {w w' : World} {p mb n : Nat} {period : Int} {L : List (Int × StC)} (h : SnAt w p mb n period L) (ho : Only K w w') (hp : ¬ K p) (hm : ¬ K mb) : SnAt w' p mb n period L := ⟨h.blk.only ho hp, h.map.only ho hm, h.rise, h.keys⟩
theorem SnAt.below {w w' : World} {p mb n : Nat} {period : Int} {L : List (Int × StC)} (h : SnAt w p mb n period L) (hb : Below w.heap.size w w') : SnAt w' p mb n period L := h.only (K := fun _ => False) (Only.of_below hb) id id
theorem new_any (w : World) (k : Int) (h : 1 ≤ k ∧ k ≤ 1000) : Calls Try.prog 5 #[.int .i64 k] w fun e w' => ∃ p mb, e = .returned (.tuple #[.pointer (some ⟨p, 0, none⟩), .int .i64 0]) ∧ SnAt w' p mb 0 k [] ∧ w.heap.size ≤ mb ∧ mb < p ∧ p < w'.heap.size ∧ Below w.heap.size w w' := by
  have q0 : decide (k < 1) = false := by simp; omega
  have q1 : decide (1000 < k) = false := by simp; omega
  have hm := KMap.made w
  have hb1 : Below (w.alloc (.map #[] 0)).heap.size (w.alloc (.map #[] 0)) ((w.alloc (.map #[] 0)).alloc (.cells #[.int .i64 k, .map (some w.heap.size)] 61)) := bl_alloc (Below.refl _ _) _
  have hp := Blk.new (w.alloc (.map #[] 0)) 61 [.int .i64 k, .map (some w.heap.size)]
  have hS : SnAt ((w.alloc (.map #[] 0)).alloc (.cells #[.int .i64 k, .map (some w.heap.size)] 61)) (w.heap.size + 1) w.heap.size 0 k [] := ⟨by simpa using hp, hm.below hb1, List.Pairwise.nil, fun x hx => by cases hx⟩
  replace hS := Lib.hid hS
  have hB : Below w.heap.size w ((w.alloc (.map #[] 0)).alloc (.cells #[.int .i64 k, .map (some w.heap.size)] 61)) := bl_alloc (bl_alloc (Below.refl _ _) _) _
  replace hB := Lib.hid hB
  clear hm hb1 hp
  have hmk : (Instr.makeMap 59 none).run Try.prog w = .ok (.map (some w.heap.size)) (w.alloc (.map #[] 0)) := rfl
  go_enter Try.func5, Try.ntmps5
  go_wp2_with fail
  go_ret2
  exact ⟨w.heap.size + 1, w.heap.size, rfl, hS.out, Nat.le_refl _, by omega, hS.out.blk.lt, hB.out⟩
/-- what copying a state gives -/
def Copies (w : World) (s : StC) (Q : StC → Nat → World → Prop) : Prop := ∀ X, Below w.heap.size w X → Calls Try.prog 18 #[.agg s.cells.toArray] X fun e w' => ∃ s' : StC, e = .returned (.agg s'.cells.toArray) ∧ Q s' X.heap.size w' ∧ Below X.heap.size X w'
theorem copies_bare (w : World) (p : Int) : Copies w (bare p) (fun s' _ _ => s' = bare p) := fun X hX => (copy_bare p X).mono fun e w' h => ⟨bare p, h.1, rfl, h.2⟩
/-- is a state not kept? -/
def offerNo (period : Int) (L : List (Int × StC)) (k : Int) : Bool := decide (k < 0) || k % period != 0 || SM.has L k
def OfferIs (w : World) (p mb n : Nat) (period : Int) (L : List (Int × StC)) (k : Int) (Q : StC → Nat → World → Prop) (e : Ending) (w' : World) : Prop :=
  (offerNo period L k = true ∧ e = .returned (.bool false) ∧ Below w.heap.size w w') ∨
  (offerNo period L k = false ∧ e = .returned (.bool true) ∧ ∃ s' n5 w5, Q s' n5 w5 ∧ w.heap.size ≤ n5 ∧ Below w.heap.size w w5 ∧ Only (fun i => i = mb) w5 w' ∧ SnAt w' p mb (n + 1) period (SM.put k s' L))
theorem OfferIs.no {w w' : World} {p mb n : Nat} {period : Int} {L : List (Int × StC)} {k : Int} {Q : StC → Nat → World → Prop} (h : offerNo period L k = true) (hb : Below w.heap.size w w') : OfferIs w p mb n period L k Q (.returned (.bool false)) w' := .inl ⟨h, rfl, hb⟩
theorem offer_nil (w : World) (k : Int) (s : StC) : Calls Try.prog 9 #[.pointer none, .int .i64 k, .agg s.cells.toArray] w fun e w' => e = .returned (.bool false) ∧ Below w.heap.size w w' := by
  have hb : Below w.heap.size w (w.alloc (.cells s.cells.toArray 43)) := bl_alloc (Below.refl _ _) _
  replace hb := Lib.hid hb
  have hsz : s.cells.toArray.size = 27 := by simp [StC.len]
  generalize s.cells.toArray = C at *
  go_enter Try.func9, Try.ntmps9
  go_wp2_with fail
  go_ret
  exact ⟨rfl, hb.out⟩
set_option maxHeartbeats 4000000 in
set_option maxRecDepth 100000 in
theorem offer_any {w : World} {p mb n : Nat} {period : Int} {L : List (Int × StC)} (hS : SnAt w p mb n period L) (hn : n < 100000) (hper : 1 ≤ period ∧ period ≤ 1000) (k : Int) (hk : -9223372036854775808 ≤ k ∧ k ≤ 9223372036854775807) (s : StC) {Q : StC → Nat → World → Prop} (hc : Copies w s Q) :
    Calls Try.prog 9 #[.pointer (some ⟨p, 0, none⟩), .int .i64 k, .agg s.cells.toArray] w (OfferIs w p mb n period L k Q) := by
  have hb0 : Below w.heap.size w (w.alloc (.cells s.cells.toArray 43)) := bl_alloc (Below.refl _ _) _
  have hsz : s.cells.toArray.size = 27 := by simp [StC.len]
  have hBox := Blk.new w 43 s.cells
  have hS1 := hS.below hb0
  obtain ⟨W1, hW1⟩ : ∃ W1, w.alloc (.cells s.cells.toArray 43) = W1 := ⟨_, rfl⟩
  rw [hW1] at hBox hb0 hS1
  have p0 : W1.cell? ⟨p, 0, none⟩ = some (.int .i64 period) := hS1.blk.cell 0
  have p1 : W1.cell? ⟨p, 1, none⟩ = some (.map (some mb)) := hS1.blk.cell 1
  have pl := hS1.blk.lt
  have hz : (period == 0) = false := by simp; omega
  obtain ⟨v, hlk, sv, hv⟩ := hS1.map.look_ok k hk
  have hv2 : ∃ sv : StC, v = .agg sv.cells.toArray := by rcases hv with h | h; exact ⟨sv, h⟩; exact ⟨zeroC, h⟩
  clear hv
  replace hW1 := Lib.hid hW1
  replace hBox := Lib.hid hBox
  replace hb0 := Lib.hid hb0
  replace hS1 := Lib.hid hS1
  obtain ⟨C, hC⟩ : ∃ C, s.cells.toArray = C := ⟨_, rfl⟩
  rw [hC] at hW1 hsz ⊢
  replace hC := Lib.hid hC
  obtain ⟨H, hH⟩ : ∃ H, SM.has L k = H := ⟨_, rfl⟩
  rw [hH] at hlk
  have hret := Lib.hid (fun (h : offerNo period L k = true) w' (hb : Below w.heap.size w w') => OfferIs.no (p := p) (mb := mb) (n := n) (Q := Q) h hb)
  by_cases hk0 : k < 0
  · have q0 : decide (k < 0) = true := by simpa using hk0
    have ho := Lib.hid (hret.out (by unfold offerNo; rw [q0]; rfl))
    clear hlk
    go_enter Try.func9, Try.ntmps9
    go_upto_region 1 with fail
    rw [hW1.out]
    go_wp2_with fail
    go_ret
    exact ho.out _ hb0.out
  · have q0 : decide (k < 0) = false := by simpa using hk0
    go_enter Try.func9, Try.ntmps9
    go_upto_region 1 with fail
    rw [hW1.out]
    by_cases hmod : k % period = 0
    rotate_left
    · have qm : (k % period != 0) = true := by simpa using hmod
      have ho := Lib.hid (hret.out (by unfold offerNo; rw [q0, qm]; rfl))
      clear hlk
      go_wp2_with fail
      go_ret
      exact ho.out _ hb0.out
    have qm : (k % period != 0) = false := by simpa using hmod
    obtain ⟨sv, rfl⟩ := hv2
    obtain ⟨W3, S1, hB3, hO3⟩ := stStore_is sv (w := W1.alloc (.cells zeroC.cells.toArray 43)) (g := W1.heap.size) (Blk.new W1 43 zeroC.cells) rfl
    have hb3 : Below W1.heap.size W1 W3 := Below.trans (bl_alloc (Below.refl _ _) _) (Only.below hO3 (by simp) (fun i hi => by rw [hi]; exact Nat.le_refl _))
    replace S1 : (stStore ⟨W1.heap.size, 0, none⟩ (.agg sv.cells.toArray)).run Try.prog (W1.alloc (.cells #[.slice none 0 0, .slice none 0 0, .bool false, .int .i64 0, .bool false, .int .i64 0, .int .i64 0, .int .i64 0, .int .i64 0, .int .i64 0, .slice none 0 0, .slice none 0 0, .bool false, .slice none 0 0, .bool false, .int .i64 0, .int .i64 0, .int .i64 0, .int .i64 0, .int .i64 0, .bool false, .bool false, .bool false, .slice none 0 0, .slice none 0 0, .slice none 0 0, .slice none 0 0] 43)) = .ok () W3 := S1
    obtain ⟨V, hV⟩ : ∃ V, sv.cells.toArray = V := ⟨_, rfl⟩
    rw [hV] at S1 hlk
    replace hV := Lib.hid hV
    replace hb3 := Lib.hid hb3
    clear hB3 hO3
    cases H with
    | true =>
      have ho := Lib.hid (hret.out (by unfold offerNo; rw [q0, qm, hH]; rfl))
      go_wp2_with fail
      go_ret
      exact ho.out _ (bl_trans hb0.out hb3.out)
    | false =>
      have ho : offerNo period L k = false := by unfold offerNo; rw [q0, qm, hH]; rfl
      replace ho := Lib.hid ho
      clear hret
      go_upto_region 6 with fail
      have hw3 : Below w.heap.size w W3 := bl_trans hb0.out hb3.out
      have hS3 := hS1.out.below hb3.out
      have hBox3 := hBox.out.below hb3.out
      clear S1 hlk p0 p1 pl hS1 hBox
      have hmp : mb ≠ p := fun e => by
        obtain ⟨es, clock, h1, _⟩ := hS3.map
        have h2 := hS3.blk
        rw [e] at h1
        have h3 : W3.heap[p]? = _ := h2
        rw [h1] at h3; cases h3
      have hmw : mb < w.heap.size := hS.map.lt
      have hpw : p < w.heap.size := hS.blk.lt
      have hkeep := Lib.hid (fun X (hO : Only (fun i => i = mb) W3 X) => (⟨hO, (hS3.blk.only hO (by show ¬ p = mb; omega)).cell 1, by
        have := stLoad_is s (hBox3.only hO (by show ¬ w.heap.size = mb; omega))
        rw [hC.out] at this
        exact this⟩ : Only (fun i => i = mb) W3 X ∧ X.cell? ⟨p, 1, none⟩ = some (.map (some mb)) ∧ (stLoad ⟨w.heap.size, 0, none⟩).run Try.prog X = .ok (.agg C) X))
      have hcp := Lib.hid (hc W3.drew (bl_drew hw3))
      rw [hC.out] at hcp
      have sI := hkeep.out W3.drew (Only.refl _ _).drew
      go_region_held3 (fun w' => Only (fun i => i = mb) W3 w' ∧ w'.cell? ⟨p, 1, none⟩ = some (.map (some mb)) ∧ (stLoad ⟨w.heap.size, 0, none⟩).run Try.prog w' = .ok (.agg C) w') (first | with_reducible exact sI | with_reducible exact hI5 | with_reducible exact hI6)
        ((go_at_call 18; (with_reducible refine hcp.out.mono ?_); rintro e w5 ⟨s', rfl, hQ5, hb5⟩; have hO5 : Only (fun i => i = mb) W3 w5 := Only.trans (Only.refl _ W3).drew (Only.of_below hb5); have hI5 := hkeep.out w5 hO5; have hput := KMap.put (hS3.map.below (bl_trans (bl_drew (Below.refl _ _)) hb5)) (by omega) hH hk s'; obtain ⟨w6, hrun6, hm6, ho6⟩ := hput; have hI6 := hkeep.out w6 (Only.trans hO5 ho6)))
      go_wp2_with fail
      go_ret
      exact .inr ⟨ho.out, rfl, s', W3.drew.heap.size, w5, hQ5, hw3.size, bl_trans hw3 (bl_trans (bl_drew (Below.refl _ _)) hb5), ho6, ⟨(hS3.blk.only (Only.trans hO5 ho6) (by show ¬ p = mb; omega)), hm6, SM.put_rising hS.rise hH, fun x hx => by
        rcases SM.mem_put hx with rfl | hx
        · exact hk
        · exact hS.keys x hx⟩⟩
end Go.Proofs.Ytfidmpkblmebeaa
