/-
  Snaps: Ahead, Behind: the walks; of chapter 25.
  Conditions: as each theorem states them.
-/
import Derived.Test.YtfidmpkblmebeaaSnap3
namespace Go.Proofs.Ytfidmpkblmebeaa
open Go.RowKit
set_option linter.unusedVariables false
set_option linter.unusedSimpArgs false
attribute [local go_sem ↓] load_st store_st
theorem LookIs.parts {o : Option (Int × StC)} {Q : StC → StC → Nat → World → Prop} {w w' : World} {e : Ending} (h : LookIs o Q w e w') : ∃ (n : Int) (s' : StC) (b : Bool), e = .returned (.tuple #[.int .i64 n, .agg s'.cells.toArray, .bool b]) ∧ Only (fun k => w.heap.size ≤ k) w w' := by
  unfold LookIs at h
  split at h
  · exact ⟨0, zeroC, false, h.1, Only.of_below h.2⟩
  · obtain ⟨s', n5, w5, he, _, _, hb, ho⟩ := h
    exact ⟨_, s', true, he, (Only.of_below hb).trans (ho.mono (fun k hk => hk.1))⟩
theorem LookIs.lift {o : Option (Int × StC)} {Q : StC → StC → Nat → World → Prop} {w W3 w' w'' : World} {e : Ending} (h : LookIs o Q W3 e w') (hb : Below w.heap.size w W3) (ho : Only (fun k => w.heap.size ≤ k ∧ k < W3.heap.size) w' w'') : LookIs o Q w e w'' := by
  unfold LookIs at h ⊢
  split at h
  · exact ⟨h.1, (bl_trans hb h.2).trans (ho.below (Nat.le_trans hb.size h.2.size) (fun k hk => hk.1))⟩
  · obtain ⟨s', n5, w5, he, q, hn, hb5, ho5⟩ := h
    exact ⟨s', n5, w5, he, q, Nat.le_trans hb.size hn, bl_trans hb hb5, (ho5.mono (fun k hk => ⟨Nat.le_trans hb.size hk.1, hk.2⟩)).trans (ho.mono (fun k hk => ⟨hk.1, Nat.lt_of_lt_of_le hk.2 hn⟩))⟩
theorem pairs_rise {L : List (Int × StC)} (h : SM.Rising L) : (L.map Prod.fst).Pairwise (· < ·) := List.pairwise_map.2 h
set_option maxHeartbeats 4000000 in
set_option maxRecDepth 100000 in
theorem behind_any {w : World} {p mb n : Nat} {period : Int} {L : List (Int × StC)} (hS : SnAt w p mb n period L) (hl : L.length ≤ 100000) (k : Int) {Q : StC → StC → Nat → World → Prop} (hc : ∀ x ∈ L, Copies w x.2 (Q x.2)) :
    Calls Try.prog 16 #[.pointer (some ⟨p, 0, none⟩), .int .i64 k] w (LookIs (SM.behind L k) Q w) := by
  have hR := Blk.new w 43 zeroC.cells
  have hb1 : Below w.heap.size w (w.alloc (.cells zeroC.cells.toArray 43)) := bl_alloc (Below.refl _ _) _
  obtain ⟨W1, hW1⟩ : ∃ W1, w.alloc (.cells zeroC.cells.toArray 43) = W1 := ⟨_, rfl⟩
  rw [hW1] at hR hb1
  have hS1 := hS.below hb1
  have hnum := Lib.hid (numbers_any hS1.blk hS1.map hS.rise (by omega))
  have hso := pairs_rise hS.rise
  replace hW1 := Lib.hid hW1
  unfold zeroC StC.cells at hW1
  have hgo := Lib.hid (fun v w2 (hN : NumAt w2 W1.heap.size v (L.map Prod.fst)) (hb2 : Below W1.heap.size W1 w2) => (⟨search_ints hN hso (by rw [List.length_map]; exact hl) k, fun w3 (hb3 : Below w2.heap.size w2 w3) => told_bat hS.rise k ▸ told_any (hS1.below (bl_trans hb2 hb3)) hl (hN.below hb3) (((L.map Prod.fst).countP fun y => decide (y < k) : Nat) : Int) (fun x hx X hX => hc x hx X (bl_trans hb1 (bl_trans hb2 (bl_trans hb3 hX)))), fun w3 w4 (hb3 : Below w2.heap.size w2 w3) (ho : Only (fun i => w3.heap.size ≤ i) w3 w4) => (hR.below (bl_trans hb2 hb3)).only ho (by have := (hR.below (bl_trans hb2 hb3)).lt; show ¬ w3.heap.size ≤ w.heap.size; omega), fun w3 (hb3 : Below w2.heap.size w2 w3) => ⟨bl_trans hb1 (bl_trans hb2 hb3), (hR.below (bl_trans hb2 hb3)).lt⟩⟩ : _ ∧ (∀ w3, Below w2.heap.size w2 w3 → Calls Try.prog 25 #[.pointer (some ⟨p, 0, none⟩), v, .int .i64 (((L.map Prod.fst).countP fun y => decide (y < k) : Nat) : Int)] w3 (LookIs (SM.behind L k) Q w3)) ∧ (∀ w3 w4, Below w2.heap.size w2 w3 → Only (fun i => w3.heap.size ≤ i) w3 w4 → Blk w4 w.heap.size 43 zeroC.cells) ∧ ∀ w3, Below w2.heap.size w2 w3 → Below w.heap.size w w3 ∧ w.heap.size < w3.heap.size))
  obtain ⟨cnt, hcnt⟩ : ∃ c, ((L.map Prod.fst).countP fun y => decide (y < k)) = c := ⟨_, rfl⟩
  rw [hcnt] at hgo
  replace hcnt := Lib.hid hcnt
  clear hR hb1 hS1 hso hS hc hl
  go_enter Try.func16, Try.ntmps16
  go_upto_region 1 with fail
  rw [hW1.out]
  go_upto_region 2 with (go_at_call 13; (with_reducible refine hnum.out.mono ?_); rintro e w2 ⟨v, rfl, hN2, hb2⟩)
  have hN2' : NumAt w2 W1.heap.size v (L.map Prod.fst) := by unfold NumAt; rw [List.length_map]; exact hN2
  obtain ⟨g1, g2, g3, g4⟩ := hgo.out v w2 hN2' hb2
  replace g1 := Lib.hid g1
  replace g2 := Lib.hid g2
  replace g3 := Lib.hid g3
  replace g4 := Lib.hid g4
  clear hN2 hN2' hgo hnum
  go_wp2_with (first
    | (go_at_call 28; (with_reducible refine g1.out.mono ?_); rintro e w3 ⟨rfl, hb3⟩)
    | (go_at_call 25; (with_reducible refine (g2.out _ hb3).mono ?_); intro e w4 hlook; obtain ⟨rn, s', rb, rfl, ho4⟩ := hlook.parts; obtain ⟨w5, S5, hB5, hO5⟩ := stStore_is s' (g3.out _ _ hb3 ho4) rfl; have L5 := stLoad_is s' hB5; have hfin := Lib.hid (hlook.lift (g4.out _ hb3).1 (hO5.mono (fun i hi => by rw [hi]; exact ⟨Nat.le_refl _, (g4.out _ hb3).2⟩))); clear hlook hB5 hO5 ho4))
  exact bodyPost_ret (v := .tuple #[.int .i64 rn, .agg s'.cells.toArray, .bool rb]) (by simp [results, Try.results16, ↓load_st, asAddr, L5, Result.andThen]) rfl hfin.out
theorem only_own {K : Nat → Prop} {w a b : World} (h : Only K w a) (k : Only (fun i => a.heap.size ≤ i) a b) : Only K w b :=
  ⟨k.os.trans h.os, k.tape.trans h.tape, k.output.trans h.output, Nat.le_trans h.size k.size, fun i hi hn => (k.block i (Nat.lt_of_lt_of_le hi h.size) (by have := h.size; show ¬ a.heap.size ≤ i; omega)).trans (h.block i hi hn)⟩
set_option maxHeartbeats 4000000 in
set_option maxRecDepth 100000 in
theorem ahead_any {w : World} {p mb n : Nat} {period : Int} {L : List (Int × StC)} (hS : SnAt w p mb n period L) (hl : L.length ≤ 100000) (k : Int) {Q : StC → StC → Nat → World → Prop} (hc : ∀ x ∈ L, Copies w x.2 (Q x.2)) :
    Calls Try.prog 15 #[.pointer (some ⟨p, 0, none⟩), .int .i64 k] w (LookIs (SM.ahead L k) Q w) := by
  have hK := (Blk.new w 3 [.int .i64 k]).alloc (.cells zeroC.cells.toArray 43)
  have hR : Blk ((w.alloc (.cells #[.int .i64 k] 3)).alloc (.cells zeroC.cells.toArray 43)) (w.heap.size + 1) 43 zeroC.cells := by
    have := Blk.new (w.alloc (.cells #[.int .i64 k] 3)) 43 zeroC.cells
    simpa using this
  have hb1 : Below w.heap.size w ((w.alloc (.cells #[.int .i64 k] 3)).alloc (.cells zeroC.cells.toArray 43)) := bl_alloc (bl_alloc (Below.refl _ _) _) _
  obtain ⟨W1, hW1⟩ : ∃ W1, (w.alloc (.cells #[.int .i64 k] 3)).alloc (.cells zeroC.cells.toArray 43) = W1 := ⟨_, rfl⟩
  rw [show ([.int .i64 k] : List Value).toArray = #[.int .i64 k] from rfl, hW1] at hK
  rw [hW1] at hR hb1
  have hS1 := hS.below hb1
  have hnum := Lib.hid (numbers_any hS1.blk hS1.map hS.rise (by omega))
  have hso := pairs_rise hS.rise
  replace hW1 := Lib.hid hW1
  unfold zeroC StC.cells at hW1
  obtain ⟨cnt, hcnt⟩ : ∃ c, ((L.map Prod.fst).countP fun y => decide (y ≤ k)) = c := ⟨_, rfl⟩
  have hcl : cnt ≤ 100000 := by rw [← hcnt]; exact Nat.le_trans List.countP_le_length (by rw [List.length_map]; exact hl)
  have hwr : IntKind.i64.wrap ((cnt : Int) - 1) = (cnt : Int) - 1 := IntWalk.i64_in _ (by omega)
  have hgo := Lib.hid (fun v w2 (hN : NumAt w2 W1.heap.size v (L.map Prod.fst)) (hb2 : Below W1.heap.size W1 w2) => (by
    intro w3 hw3
    have hb3 : Below w2.heap.size w2 w3 := by rw [← hw3]; exact bl_alloc (Below.refl _ _) _
    have hlb : Blk w3 w2.heap.size 50 [v] := by rw [← hw3]; exact Blk.new w2 _ _
    have hN3 := hN.below hb3
    have hK3 := (hK.below hb2).below hb3
    have hR3 := (hR.below hb2).below hb3
    have hS3 := (hS1.below hb2).below hb3
    have h13 := bl_trans hb2 hb3
    have hR3l := hR3.lt
    have hK3l := hK3.lt
    have hsb := hb1.size
    refine ⟨fun X hX => ?_, fun X hX => ?_, fun X w4 hX h4 => ?_, fun X hX => ?_, fun X hX => ?_, hlb.lt⟩
    · have := search_above (w := X) (hN3.below hX) hso (by rw [List.length_map]; exact hl) k (lb := w2.heap.size) (nb := w.heap.size) ((hlb.below hX).cell 0) ((hK3.below hX).cell 0)
      rw [hcnt] at this
      exact this
    · have := told_at hS.rise k
      rw [hcnt] at this
      rw [← this]
      exact told_any (hS3.below hX) hl (hN3.below hX) _ (fun x hx Y hY => hc x hx Y (bl_trans hb1 (bl_trans h13 (bl_trans hX hY))))
    · exact (hR3.below hX).only h4 (by have := (hR3.below hX).lt; show ¬ X.heap.size ≤ w.heap.size + 1; omega)
    · exact ⟨bl_trans hb1 (bl_trans h13 hX), (hR3.below hX).lt⟩
    · have hne : ¬ w2.heap.size = w.heap.size + 1 := by have := (hR.below hb2).lt; omega
      exact (hlb.only hX hne).cell 0 : ∀ w3, w2.alloc (.cells #[v] 50) = w3 → (∀ X, Below w3.heap.size w3 X → Calls Try.prog 26 #[.int .i64 ((L.map Prod.fst).length : Int), .func (.func 27) #[] #[.pointer (some ⟨w2.heap.size, 0, none⟩), .pointer (some ⟨w.heap.size, 0, none⟩)]] X fun e w' => e = .returned (.int .i64 (cnt : Int)) ∧ Below X.heap.size X w') ∧ (∀ X, Below w3.heap.size w3 X → Calls Try.prog 25 #[.pointer (some ⟨p, 0, none⟩), v, .int .i64 ((cnt : Int) - 1)] X (LookIs (SM.ahead L k) Q X)) ∧ (∀ X w4, Below w3.heap.size w3 X → Only (fun i => X.heap.size ≤ i) X w4 → Blk w4 (w.heap.size + 1) 43 zeroC.cells) ∧ (∀ X, Below w3.heap.size w3 X → Below w.heap.size w X ∧ w.heap.size + 1 < X.heap.size) ∧ (∀ X, Only (fun i => i = w.heap.size + 1) w3 X → X.cell? ⟨w2.heap.size, 0, none⟩ = some v) ∧ w2.heap.size < w3.heap.size))
  replace hcnt := Lib.hid hcnt
  clear hR hK hb1 hS1 hso hS hc hl hcl
  go_enter Try.func15, Try.ntmps15
  go_upto_region 1 with fail
  rw [hW1.out]
  go_upto_region 2 with (go_at_call 13; (with_reducible refine hnum.out.mono ?_); rintro e w2 ⟨v, rfl, hN2, hb2⟩; have hN2' : NumAt w2 W1.heap.size v (L.map Prod.fst) := (by unfold NumAt; rw [List.length_map]; exact hN2); obtain ⟨a, c, rfl, _⟩ := hN2'.slice; replace hN2' := Lib.hid hN2'; clear hN2)
  have hlen : (L.map Prod.fst).length = L.length := List.length_map _
  obtain ⟨w3, hw3⟩ : ∃ w3, w2.alloc (.cells #[.slice a L.length c] 50) = w3 := ⟨_, rfl⟩
  obtain ⟨g1, g2, g3, g4, g5, g6⟩ := hgo.out _ w2 hN2'.out hb2 w3 (by rw [hlen]; exact hw3)
  rw [hlen] at g1 g2 g5
  rw [hw3]
  obtain ⟨m, hm⟩ : ∃ m, L.length = m := ⟨_, rfl⟩
  rw [hm] at g1 g2 g5 ⊢
  clear hlen
  obtain ⟨lb, hlb⟩ : ∃ lb, w2.heap.size = lb := ⟨_, rfl⟩
  rw [hlb] at g1 g5 g6 ⊢
  have sI : Only (fun i => i = w.heap.size + 1) w3 w3.drew ∧ w3.drew.cell? ⟨lb, 0, none⟩ = some (.slice a m c) ∧ lb < w3.drew.heap.size := ⟨(Only.refl _ _).drew, g5 _ (Only.refl _ _).drew, g6⟩
  have sB : Below w3.heap.size w3 w3.drew := bl_drew (Below.refl _ _)
  have g1' := Lib.hid (g1 _ sB)
  replace g2 := Lib.hid g2
  replace g3 := Lib.hid g3
  replace g4 := Lib.hid g4
  replace g5 := Lib.hid g5
  replace g6 := Lib.hid g6
  replace hlb := Lib.hid hlb
  replace hm := Lib.hid hm
  replace hw3 := Lib.hid hw3
  clear g1 hN2' hgo hnum hb2
  go_region_held3 (fun X => Only (fun i => i = w.heap.size + 1) w3 X ∧ X.cell? ⟨lb, 0, none⟩ = some (.slice a m c) ∧ lb < X.heap.size) (first | with_reducible exact sI | with_reducible exact hI5 | with_reducible exact hI6 | with_reducible exact hI7)
    (first
      | (go_at_call 26; (with_reducible refine g1'.out.mono ?_); rintro e w5 ⟨rfl, hb5⟩; have hb5' := bl_trans sB hb5; have hI5 : Only (fun i => i = w.heap.size + 1) w3 w5 ∧ w5.cell? ⟨lb, 0, none⟩ = some (.slice a m c) ∧ lb < w5.heap.size := ⟨Only.of_below hb5', g5.out _ (Only.of_below hb5'), Nat.lt_of_lt_of_le g6.out hb5'.size⟩)
      | (go_at_call 25; (with_reducible refine (g2.out _ hb5').mono ?_); intro e w6 hlook; obtain ⟨rn, s', rb, rfl, ho6⟩ := hlook.parts; have hO6 := only_own hI5.1 ho6; have hI6 : Only (fun i => i = w.heap.size + 1) w3 w6 ∧ w6.cell? ⟨lb, 0, none⟩ = some (.slice a m c) ∧ lb < w6.heap.size := ⟨hO6, g5.out _ hO6, Nat.lt_of_lt_of_le g6.out hO6.size⟩; obtain ⟨w7, S7, hB7, hO7⟩ := stStore_is s' (g3.out _ _ hb5' ho6) rfl; have hO7' := Only.trans hO6 hO7; have hI7 : Only (fun i => i = w.heap.size + 1) w3 w7 ∧ w7.cell? ⟨lb, 0, none⟩ = some (.slice a m c) ∧ lb < w7.heap.size := ⟨hO7', g5.out _ hO7', Nat.lt_of_lt_of_le g6.out hO7'.size⟩; have L7 := stLoad_is s' hB7; have hfin := Lib.hid (hlook.lift (g4.out _ hb5').1 (hO7.mono (fun i hi => by rw [hi]; exact ⟨Nat.le_succ _, (g4.out _ hb5').2⟩)))))
  go_wp2_with fail
  exact bodyPost_ret (v := .tuple #[.int .i64 rn, .agg s'.cells.toArray, .bool rb]) (by simp [results, Try.results15, ↓load_st, asAddr, L7, Result.andThen]) rfl hfin.out
end Go.Proofs.Ytfidmpkblmebeaa
