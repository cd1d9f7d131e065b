/-
  Snaps: told, Numbers at nil; of chapter 25.
  Conditions: as each theorem states them.
-/
import Derived.Test.YtfidmpkblmebeaaSnap1
namespace Go.Proofs.Ytfidmpkblmebeaa
open Go.RowKit
set_option linter.unusedVariables false
set_option linter.unusedSimpArgs false
attribute [local go_sem ↓] load_st store_st
theorem numbers_nil (w : World) : Calls Try.prog 13 #[.pointer none] w fun e w' => e = .returned (.slice none 0 0) ∧ w = w' := by
  go_enter Try.func13, Try.ntmps13
  go_wp2_with fail
  go_ret
  exact ⟨rfl, rfl⟩
/-- numbers in memory -/
def NumAt (w : World) (base : Nat) (v : Value) (l : List Int) : Prop := w.ownsRow base 3 1 v l.length (l.map Go.encZ)
theorem NumAt.below {w w' : World} {base : Nat} {v : Value} {l : List Int} (h : NumAt w base v l) (hb : Below w.heap.size w w') : NumAt w' base v l := by
  rcases h.2 with h2 | ⟨g, cap, cur, h1, h2, h3, h4⟩
  · exact ⟨h.1, .inl h2⟩
  · exact ⟨h.1, .inr ⟨g, cap, cur, h1, h2, (hb.block g (Array.getElem?_eq_some_iff.1 h3).1).trans h3, h4⟩⟩
theorem NumAt.slice {w : World} {base : Nat} {v : Value} {l : List Int} (h : NumAt w base v l) : ∃ a c, v = .slice a l.length c ∧ (0 < l.length → ∃ g, a = some ⟨g, 0, none⟩ ∧ base ≤ g ∧ g < w.heap.size ∧ ∀ i (hi : i < l.length), w.cell? ⟨g, i, none⟩ = some (.int .i64 l[i])) := by
  rcases h.2 with ⟨h1, h2⟩ | ⟨g, cap, cur, h1, h2, h3, h4, h5, h6, h7⟩
  · exact ⟨none, 0, by rw [h1, h2], fun h0 => by omega⟩
  · refine ⟨some ⟨g, 0, none⟩, cap, h1, fun _ => ⟨g, rfl, h2, (Array.getElem?_eq_some_iff.1 h3).1, fun i hi => ?_⟩⟩
    have e := congrArg (fun x => x[i]?) h7
    simp only [List.getElem?_take, List.getElem?_map, List.getElem?_eq_getElem hi, Option.map_some] at e
    rw [if_pos (by omega)] at e
    simp only [World.cell?, h3]
    simpa using e
abbrev zeroA : Array Value := #[.slice none 0 0, .slice none 0 0, .bool false, .int .i64 0, .bool false, .int .i64 0, .int .i64 0, .int .i64 0, .int .i64 0, .int .i64 0, .slice none 0 0, .slice none 0 0, .bool false, .slice none 0 0, .bool false, .int .i64 0, .int .i64 0, .int .i64 0, .int .i64 0, .int .i64 0, .bool false, .bool false, .bool false, .slice none 0 0, .slice none 0 0, .slice none 0 0, .slice none 0 0]
set_option maxHeartbeats 4000000 in
set_option maxRecDepth 100000 in
theorem told_no (w : World) (pv : Value) (a : Option Addr) (m c : Nat) (i : Int) (h : i < 0 ∨ (m : Int) ≤ i) :
    Calls Try.prog 25 #[pv, .slice a m c, .int .i64 i] w fun e w' => e = .returned (.tuple #[.int .i64 0, .agg zeroC.cells.toArray, .bool false]) ∧ Below w.heap.size w w' := by
  obtain ⟨W3, S1, hB3, hO3⟩ := stStore_is zeroC (w := w.alloc (.cells zeroC.cells.toArray 43)) (g := w.heap.size) (Blk.new w _ _) rfl
  have hb3 : Below w.heap.size w W3 := Below.trans (bl_alloc (Below.refl _ _) _) (Only.below hO3 (by simp) (fun i hi => by rw [hi]; exact Nat.le_refl _))
  have L2 := stLoad_is zeroC hB3
  have hret := Lib.hid hb3
  clear hB3 hO3 hb3
  replace S1 : (stStore ⟨w.heap.size, 0, none⟩ (.agg #[.slice none 0 0, .slice none 0 0, .bool false, .int .i64 0, .bool false, .int .i64 0, .int .i64 0, .int .i64 0, .int .i64 0, .int .i64 0, .slice none 0 0, .slice none 0 0, .bool false, .slice none 0 0, .bool false, .int .i64 0, .int .i64 0, .int .i64 0, .int .i64 0, .int .i64 0, .bool false, .bool false, .bool false, .slice none 0 0, .slice none 0 0, .slice none 0 0, .slice none 0 0])).run Try.prog (w.alloc (.cells #[.slice none 0 0, .slice none 0 0, .bool false, .int .i64 0, .bool false, .int .i64 0, .int .i64 0, .int .i64 0, .int .i64 0, .int .i64 0, .slice none 0 0, .slice none 0 0, .bool false, .slice none 0 0, .bool false, .int .i64 0, .int .i64 0, .int .i64 0, .int .i64 0, .int .i64 0, .bool false, .bool false, .bool false, .slice none 0 0, .slice none 0 0, .slice none 0 0, .slice none 0 0] 43)) = .ok () W3 := S1
  by_cases h0 : i < 0
  · have q0 : decide (i < 0) = true := by simpa using h0
    go_enter Try.func25, Try.ntmps25
    go_wp2_with fail
    exact bodyPost_ret (v := .tuple #[.int .i64 0, .agg zeroC.cells.toArray, .bool false]) (by simp [results, Try.results25, ↓load_st, asAddr, L2, Result.andThen]) rfl ⟨rfl, hret.out⟩
  · have q0 : decide (i < 0) = false := by simpa using h0
    have q1 : decide ((m : Int) ≤ i) = true := by simp; omega
    go_enter Try.func25, Try.ntmps25
    go_wp2_with fail
    exact bodyPost_ret (v := .tuple #[.int .i64 0, .agg zeroC.cells.toArray, .bool false]) (by simp [results, Try.results25, ↓load_st, asAddr, L2, Result.andThen]) rfl ⟨rfl, hret.out⟩
set_option maxHeartbeats 4000000 in
set_option maxRecDepth 100000 in
theorem told_yes {w : World} {p mb n : Nat} {period : Int} {L : List (Int × StC)} (hS : SnAt w p mb n period L) (hl : L.length ≤ 100000) {base : Nat} {v : Value} (hv : NumAt w base v (L.map Prod.fst)) (i : Nat) (hi : i < L.length) {Q : StC → Nat → World → Prop} (hc : Copies w (L[i]).2 Q) :
    Calls Try.prog 25 #[.pointer (some ⟨p, 0, none⟩), v, .int .i64 (i : Int)] w fun e w' => ∃ s' n5 w5, e = .returned (.tuple #[.int .i64 (L[i]).1, .agg s'.cells.toArray, .bool true]) ∧ Q s' n5 w5 ∧ w.heap.size < n5 ∧ Below w.heap.size w w5 ∧ Only (fun k => k = w.heap.size) w5 w' := by
  obtain ⟨a, c, rfl, hrow⟩ := hv.slice
  have hlen : (L.map Prod.fst).length = L.length := List.length_map _
  rw [hlen]
  obtain ⟨g, rfl, hg1, hg2, hcell⟩ := hrow (by rw [hlen]; omega)
  have ci : w.cell? ⟨g, i, none⟩ = some (.int .i64 (L[i]).1) := by rw [hcell i (by rw [hlen]; omega), List.getElem_map]
  obtain ⟨m, hm⟩ : ∃ m, L.length = m := ⟨_, rfl⟩
  obtain ⟨k, hk⟩ : ∃ k, (L[i]).1 = k := ⟨_, rfl⟩
  obtain ⟨s, hs⟩ : ∃ s, (L[i]).2 = s := ⟨_, rfl⟩
  have hmem : (k, s) ∈ L := by rw [← hk, ← hs]; exact List.getElem_mem hi
  rw [hk] at ci ⊢
  rw [hs] at hc
  rw [hm]
  have him : (i : Int) < (m : Int) := by omega
  have hi0 : (0 : Int) ≤ (i : Int) := by omega
  have q0 : decide ((i : Int) < 0) = false := by simp
  have q1 : decide ((m : Int) ≤ (i : Int)) = false := by simp; omega
  have hb1 : Below w.heap.size w (w.alloc (.cells zeroC.cells.toArray 43)) := bl_alloc (Below.refl _ _) _
  have hR := Blk.new w 43 zeroC.cells
  obtain ⟨W1, hW1⟩ : ∃ W1, w.alloc (.cells zeroC.cells.toArray 43) = W1 := ⟨_, rfl⟩
  rw [hW1] at hb1 hR
  have hS1 := hS.below hb1
  have hkk := hS.keys _ hmem
  have hlk := (hS1.map.below (bl_drew (Below.refl _ _))).look hS.rise hmem hkk
  have hpw := hS.blk.lt
  have hg1' : g < W1.heap.size := Nat.lt_of_lt_of_le hg2 hb1.size
  have hpw' := hS1.blk.lt
  have hkeep := Lib.hid (fun X (hO : Only (fun k => k = w.heap.size) W1 X) => (⟨hO, (hS1.blk.only hO (by show ¬ p = w.heap.size; omega)).cell 1, (World.cell?_of_block (a := ⟨g, i, none⟩) (hO.block g hg1' (by show ¬ g = w.heap.size; omega))).trans ((hb1.cell (p := ⟨g, i, none⟩) hg2).trans ci), Nat.lt_of_lt_of_le hg1' hO.size, Nat.lt_of_lt_of_le hpw' hO.size⟩ : Only (fun k => k = w.heap.size) W1 X ∧ X.cell? ⟨p, 1, none⟩ = some (.map (some mb)) ∧ X.cell? ⟨g, i, none⟩ = some (.int .i64 k) ∧ g < X.heap.size ∧ p < X.heap.size))
  have hcp := Lib.hid (hc W1.drew (bl_drew hb1))
  obtain ⟨C, hC⟩ : ∃ C, s.cells.toArray = C := ⟨_, rfl⟩
  rw [hC] at hlk hcp
  have sI := hkeep.out W1.drew (Only.refl _ _).drew
  have hst := Lib.hid (fun w5 (s' : StC) (hb : Below W1.drew.heap.size W1.drew w5) => stStore_is s' (hR.below (bl_trans (bl_drew (Below.refl _ _)) hb)) rfl)
  have hsz1 : w.heap.size < W1.drew.heap.size := hR.lt
  replace hsz1 := Lib.hid hsz1
  replace hW1 := Lib.hid hW1
  replace hb1 := Lib.hid hb1
  clear hS hv hrow hcell ci hlen hc hS1 hmem hk hs hm hi hl hR hg2 hkk
  unfold zeroC StC.cells at hW1
  go_enter Try.func25, Try.ntmps25
  go_upto_region 1 with fail
  rw [hW1.out]
  go_upto_region 3 with fail
  go_region_held3 (fun X => Only (fun k => k = w.heap.size) W1 X ∧ X.cell? ⟨p, 1, none⟩ = some (.map (some mb)) ∧ X.cell? ⟨g, i, none⟩ = some (.int .i64 k) ∧ g < X.heap.size ∧ p < X.heap.size) (first | with_reducible exact sI | with_reducible exact hI5 | with_reducible exact hI6)
    ((go_at_call 18; (with_reducible refine hcp.out.mono ?_); rintro e w5 ⟨s', rfl, hQ5, hb5⟩; have hO5 : Only (fun k => k = w.heap.size) W1 w5 := Only.trans (Only.refl _ W1).drew (Only.of_below hb5); have hI5 := hkeep.out w5 hO5; obtain ⟨w6, S6, hB6, hO6⟩ := hst.out w5 s' hb5; have L6 := stLoad_is s' hB6; have hI6 := hkeep.out w6 (Only.trans hO5 hO6)))
  go_wp2_with fail
  exact bodyPost_ret (v := .tuple #[.int .i64 k, .agg s'.cells.toArray, .bool true]) (by simp [results, Try.results25, ↓load_st, asAddr, L6, Result.andThen]) rfl ⟨s', W1.drew.heap.size, w5, rfl, hQ5, hsz1.out, bl_trans hb1.out (bl_trans (bl_drew (Below.refl _ _)) hb5), hO6⟩
end Go.Proofs.Ytfidmpkblmebeaa
