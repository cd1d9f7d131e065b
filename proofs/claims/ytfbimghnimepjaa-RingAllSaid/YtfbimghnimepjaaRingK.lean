/-
  The walks of layer 24's example and of the law RingKeeps: each returns true and changes nothing that was there.
  Conditions: as each theorem states them; none beyond.
-/
import Derived.Test.YtfbimghnimepjaaRing
import Derived.Test.YtfbimghnimepjaaReads
namespace Go.Proofs.Ytfbimghnimepjaa
open Go.RowKit
set_option linter.unusedVariables false
theorem RingAt.only {RT ET : TypeId} {w w' : World} {p g : Nat} {room : List Value} {low high : Nat} {S : Nat → Prop} (h : RingAt RT ET w p g room low high) (ho : Only S w w') (hp : ¬ S p) (hg : ¬ S g) : RingAt RT ET w' p g room low high :=
  h.of (ho.block p h.blk.lt hp) (ho.block g h.row.lt hg)
theorem RingAt.drewN {RT ET : TypeId} {w : World} {p g : Nat} {room : List Value} {low high : Nat} (h : RingAt RT ET w p g room low high) (n : Nat) : RingAt RT ET (w.drewN n) p g room low high := h.of rfl rfl
theorem bl_only {S : Nat → Prop} {a b c : World} (h : Below a.heap.size a b) (k : Only S b c) (hs : ∀ i, S i → a.heap.size ≤ i) : Below a.heap.size a c := h.trans (k.below h.size hs)

set_option maxHeartbeats 1000000 in
theorem awake24_any (w : World) : Calls Try.prog 20 #[] w fun e w' => e = .returned (.bool true) ∧ Below w.heap.size w w' := by
  go_enter Try.func20, Try.ntmps20
  go_wp2_with fail
  refine (new_str 2 w (by omega) (by omega)).mono ?_
  rintro e w1 ⟨p, g, rfl, hp, hg, hR, hb⟩
  have hS : ∀ i, (i = p ∨ i = g) → w.heap.size ≤ i := by omega
  replace hS := Lib.hid hS
  go_wp2_with fail
  refine (push_str _ _ p g _ _ _ hR (by omega)).mono ?_
  rintro e w2 ⟨rfl, hR2, ho2⟩
  have hb2 := bl_only hb ho2 hS.out
  simp [List.replicate] at hR2
  clear hR hb ho2
  go_wp2_with fail
  refine (push_str _ _ p g _ _ _ hR2 (by omega)).mono ?_
  rintro e w3 ⟨rfl, hR3, ho3⟩
  have hb3 := bl_only hb2 ho3 hS.out
  simp at hR3
  clear hR2 hb2 ho3
  go_wp2_with fail
  refine (push_str _ _ p g _ _ _ hR3 (by omega)).mono ?_
  rintro e w4 ⟨rfl, hR4, ho4⟩
  have hb4 := bl_only hb3 ho4 hS.out
  simp at hR4
  clear hR3 hb3 ho4
  go_wp2_with (first | (go_at_call 23; refine (low_str _ p g _ _ _ hR4).mono ?_; rintro e w5 ⟨rfl, rfl⟩) | (go_at_call 24; refine (high_str _ p g _ _ _ hR4).mono ?_; rintro e w5 ⟨rfl, rfl⟩))
  refine (cut_str 2 _ p g _ _ _ 2 hR4 (by omega) (by omega)).mono ?_
  rintro e w5 ⟨room5, rfl, hl5, _, hR5, ho5⟩
  have hb5 := bl_only hb4 ho5 hS.out
  clear hR4 hb4 ho5
  go_wp2_with fail
  refine (push_str _ _ p g _ _ _ hR5 (by omega)).mono ?_
  rintro e w6 ⟨rfl, hR6, ho6⟩
  have hb6 := bl_only hb5 ho6 hS.out
  go_wp2_with fail
  go_ret
  exact ⟨rfl, hb6⟩

theorem rStr_row {S : Sub} {b off : Nat} {xs : List (List UInt8)} (h : RowAt rStr S b off xs) {w : World} (hw : S.In w) : ∃ ss : Nat → ByteArray, ∀ i, i < xs.length → w.cell? ⟨b, off + i, none⟩ = some (.string (ss i)) ∧ (ss i).data.toList = xs.getD i [] ∧ (ss i).size ≤ maxLen := by
  have hx : ∀ i, i < xs.length → ∃ s : ByteArray, w.cell? ⟨b, off + i, none⟩ = some (.string s) ∧ s.data.toList = xs.getD i [] ∧ s.size ≤ maxLen := fun i hi => by
    obtain ⟨cs, ⟨s, h1, h2, h3⟩, h4⟩ := h i hi
    subst h1
    have := h4.cell hw (j := 0) (by simp)
    exact ⟨s, by simpa [rStr] using this, by simp [h2, hi], h3⟩
  exact Deep.choose_lt hx

set_option maxHeartbeats 2000000 in
set_option maxRecDepth 100000 in
theorem keepsWalk (a : Int) (ha : 0 ≤ a ∧ a ≤ 255) (la : Option Addr) (n lc : Nat) (ss : Nat → ByteArray) (w : World) (hn : n ≤ 100)
    (hl : 0 < n → ∃ b o, la = some ⟨b, o, none⟩ ∧ b < w.heap.size ∧ ∀ i, i < n → w.cell? ⟨b, o + i, none⟩ = some (.string (ss i))) :
    Calls Try.prog 7 #[.int .u8 a, .slice la n lc] w fun e w' => e = .returned (.bool true) ∧ Below w.heap.size w w' := by
  replace hl := Lib.hid hl
  go_enter Try.func7, Try.ntmps7
  go_wp2_with fail
  have hq : 1 ≤ 1 + a ∧ 1 + a ≤ 256 := by omega
  generalize 1 + a = q at *
  obtain ⟨cap, rfl⟩ := Int.eq_ofNat_of_zero_le (a := q) (by omega)
  have hc : 1 ≤ cap ∧ cap ≤ 256 := by omega
  refine (new_str cap w (by omega) (by omega)).mono ?_
  rintro e w1 ⟨p, g, rfl, hp, hg, hR, hb⟩
  have hS : ∀ i, (i = p ∨ i = g) → w.heap.size ≤ i := by omega
  replace hS := Lib.hid hS
  go_wp2_with fail
  go_loopw [8] (fun i wr => ∃ (k : Nat) (room : List Value), i = .int .i64 k ∧ k ≤ n ∧ RingAt 105 9 wr p g room (k - cap) k ∧ room.length = cap ∧ (∀ j, k - cap ≤ j → j < k → room[j % cap]? = some (.string (ss j))) ∧ Below w.heap.size w wr) (fun i _ => (n - intOf i).toNat)
  case atStart => exact ⟨0, _, rfl, by omega, by simpa using hR, by simp, fun j _ h => by omega, hb⟩
  case round =>
    obtain ⟨k, room, rfl, hk, hR, hlen, hroom, hbl⟩ := hrel
    by_cases hlt : k < n
    · obtain ⟨b, o, rfl, hbb, hcell⟩ := hl.out (by omega)
      have c1 := (hbl.cell (p := ⟨b, o + k, none⟩) hbb).trans (hcell k hlt)
      clear hcell
      replace hlen := Lib.hid hlen
      go_wp2_with (go_at_call 21; refine (push_str _ _ p g _ _ _ hR (by omega)).mono ?_; rintro e w2 ⟨rfl, hR2, ho2⟩)
      all_goals go_roundw
      case measure => simp [intOf]; omega
      case rel =>
        have e1 : max (k - cap) (k + 1 - room.length) = k + 1 - cap := by rw [hlen.out]; omega
        rw [e1] at hR2
        refine ⟨k + 1, _, by go_num, by omega, hR2, by simp [hlen.out], fun j h1 h2 => ?_, bl_only hbl ho2 hS.out⟩
        rw [hlen.out]
        by_cases hj : j = k
        · subst hj
          rw [List.getElem?_set_self (by rw [hlen.out]; exact Nat.mod_lt _ (by omega))]
        · rw [List.getElem?_set_ne (mod_ne (a := j) (b := k) (by omega) (by omega)).symm]
          exact hroom j (by omega) (by omega)
    · obtain rfl : n = k := by omega
      replace hlen := Lib.hid hlen
      replace hroom := Lib.hid hroom
      go_wp2_with fail
      go_loopw [9] (fun i wr2 => ∃ (k : Nat), i = .int .i64 k ∧ k ≤ n ∧ RingAt 105 9 wr2 p g room (n - cap) n ∧ Below w.heap.size w wr2) (fun i _ => (n - intOf i).toNat)
      case atStart => exact ⟨0, rfl, by omega, hR, hbl⟩
      case round =>
        obtain ⟨j, rfl, hj, hR2, hbl2⟩ := hrel
        by_cases hlt2 : j < n
        · obtain ⟨b, o, rfl, hbb, hcell⟩ := hl.out (by omega)
          have c1 := (hbl2.cell (p := ⟨b, o + j, none⟩) hbb).trans (hcell j hlt2)
          clear hcell
          by_cases hin : n - cap ≤ j
          · have hin' : (n : Int) - cap ≤ j := by omega
            have hV := hroom.out j hin hlt2
            rw [← hlen.out] at hV
            replace hV := Lib.hid hV
            go_wp2_with (go_at_call 22; refine (at_in_str _ _ _ p g _ _ _ hR2 hin hlt2 hV.out).mono ?_; rintro e w2 ⟨rfl, m, rfl⟩)
            all_goals go_roundw
            case measure => simp [intOf]; omega
            case rel => exact ⟨j + 1, by go_num, by omega, hR2.drewN _, bl_drewN hbl2 _⟩
          · have hin' : (j : Int) < n - cap := by omega
            go_wp2_with (go_at_call 22; refine (at_out_str _ _ p g _ _ _ hR2 (.inl (by omega))).mono ?_; rintro e w2 ⟨rfl, rfl⟩)
            all_goals go_roundw
            case measure => simp [intOf]; omega
            case rel => exact ⟨j + 1, by go_num, by omega, hR2, hbl2⟩
        · by_cases hnc : n ≤ cap
          · have e0 : ((n - cap : Nat) : Int) = 0 := by omega
            have hnc' : (n : Int) - cap ≤ 0 := by omega
            go_wp2_with (first | (go_at_call 23; refine (low_str _ p g _ _ _ hR2).mono ?_; rintro e w2 ⟨rfl, rfl⟩) | (go_at_call 24; refine (high_str _ p g _ _ _ hR2).mono ?_; rintro e w2 ⟨rfl, rfl⟩) | (go_at_call 20; refine (awake24_any _).mono ?_; rintro e w2 ⟨rfl, hb9⟩))
            all_goals go_ret
            all_goals exact ⟨rfl, bl_trans hbl2 hb9⟩
          · have e0 : ((n - cap : Nat) : Int) = (n : Int) - cap := by omega
            have hnc' : 0 < (n : Int) - cap := by omega
            go_wp2_with (first | (go_at_call 23; refine (low_str _ p g _ _ _ hR2).mono ?_; rintro e w2 ⟨rfl, rfl⟩) | (go_at_call 24; refine (high_str _ p g _ _ _ hR2).mono ?_; rintro e w2 ⟨rfl, rfl⟩) | (go_at_call 20; refine (awake24_any _).mono ?_; rintro e w2 ⟨rfl, hb9⟩))
            all_goals go_ret
            all_goals exact ⟨rfl, bl_trans hbl2 hb9⟩
set_option maxHeartbeats 1000000 in
theorem keepsWalk_great (a : Int) (ha : 0 ≤ a ∧ a ≤ 255) (la : Option Addr) (n lc : Nat) (w : World) (hn : 100 < n) :
    Calls Try.prog 7 #[.int .u8 a, .slice la n lc] w fun e w' => e = .returned (.bool true) ∧ Below w.heap.size w w' := by
  go_enter Try.func7, Try.ntmps7
  go_wp2_with fail
  have hq : 1 ≤ 1 + a ∧ 1 + a ≤ 256 := by omega
  generalize 1 + a = q at *
  obtain ⟨cap, rfl⟩ := Int.eq_ofNat_of_zero_le (a := q) (by omega)
  have hc : 1 ≤ cap ∧ cap ≤ 256 := by omega
  refine (new_str cap w (by omega) (by omega)).mono ?_
  rintro e w1 ⟨p, g, rfl, hp, hg, hR, hb⟩
  go_wp2_with (go_at_call 20; refine (awake24_any _).mono ?_; rintro e w2 ⟨rfl, hb9⟩)
  all_goals go_ret
  all_goals exact ⟨rfl, bl_trans hb hb9⟩
theorem ringKeeps_walk (W : World) (a : Int) (wa : (Lit.int .u8 a).wf = true) (la : Option Addr) (l c : Nat) (x : List (List UInt8)) (h : (rSl rStr).ok (Sub.all W) [.slice la l c] x) :
    Calls Try.prog 7 #[.int .u8 a, .slice la l c] W fun e w' => e = .returned (.bool true) ∧ Below W.heap.size W w' := by
  obtain ⟨a', c', e, _, _, hr⟩ := h
  simp only [List.cons.injEq, Value.slice.injEq, and_true] at e
  obtain ⟨rfl, rfl, rfl⟩ := e
  by_cases hl : 100 < x.length
  · exact keepsWalk_great a (bounds_u8 wa) _ _ _ W hl
  · by_cases h0 : 0 < x.length
    · obtain ⟨b, o, rfl, hrow⟩ := hr h0
      obtain ⟨ss, hss⟩ := rStr_row hrow (Sub.all_in W)
      have hb : b < W.heap.size := World.block_lt_of_cell? W _ (hss 0 h0).1
      exact keepsWalk a (bounds_u8 wa) _ _ _ ss W (by omega) fun _ => ⟨b, o, rfl, hb, fun i hi => (hss i hi).1⟩
    · exact keepsWalk a (bounds_u8 wa) _ _ _ (fun _ => ⟨#[]⟩) W (by omega) fun h => absurd h h0
end Go.Proofs.Ytfbimghnimepjaa
