/-
  Snaps: Keep; of chapter 25.
  Conditions: as each theorem states them.
-/
import Derived.Test.YtfidmpkblmebeaaSnap4
namespace Go.Proofs.Ytfidmpkblmebeaa
open Go.RowKit
set_option linter.unusedVariables false
set_option linter.unusedSimpArgs false
/-- what is left behind i rounds -/
def keepTo (L : List (Int × StC)) (lo hi : Int) (i : Nat) : List (Int × StC) := SM.keep (L.take i) lo hi ++ L.drop i
theorem keepTo_zero (L : List (Int × StC)) (lo hi : Int) : keepTo L lo hi 0 = L := by simp [keepTo, SM.keep]
theorem keepTo_end (L : List (Int × StC)) (lo hi : Int) : keepTo L lo hi L.length = SM.keep L lo hi := by simp [keepTo]
theorem keepTo_in {L : List (Int × StC)} {lo hi : Int} {i : Nat} (h : i < L.length) (hk : ¬ (L[i]).1 < lo ∧ ¬ hi < (L[i]).1) : keepTo L lo hi (i + 1) = keepTo L lo hi i := by
  unfold keepTo SM.keep
  rw [List.take_succ_eq_append_getElem h, List.filter_append, List.drop_eq_getElem_cons h, List.append_assoc]
  congr 1
  rw [List.filter_cons_of_pos (by simp; omega)]
  rfl
theorem keepTo_out {L : List (Int × StC)} (hr : SM.Rising L) {lo hi : Int} {i : Nat} (h : i < L.length) (hk : (L[i]).1 < lo ∨ hi < (L[i]).1) : keepTo L lo hi (i + 1) = (keepTo L lo hi i).filter fun p => decide (p.1 ≠ (L[i]).1) := by
  have hd := List.pairwise_iff_getElem.1 hr
  unfold keepTo SM.keep
  rw [List.take_succ_eq_append_getElem h, List.filter_append, List.drop_eq_getElem_cons h, List.filter_append]
  have h1 : [L[i]].filter (fun p => decide (lo ≤ p.1) && decide (p.1 ≤ hi)) = [] := List.filter_eq_nil_iff.2 fun p hp => by
    obtain rfl : p = L[i] := by simpa using hp
    simp; omega
  have h2 : ((L.take i).filter fun p => decide (lo ≤ p.1) && decide (p.1 ≤ hi)).filter (fun p => decide (p.1 ≠ (L[i]).1)) = (L.take i).filter fun p => decide (lo ≤ p.1) && decide (p.1 ≤ hi) := List.filter_eq_self.2 fun p hp => by
    have hp' := (List.mem_filter.1 hp).1
    obtain ⟨j, hj, rfl⟩ := List.mem_iff_getElem.1 hp'
    have hj' : j < i := by simp at hj; omega
    have := hd j i (by omega) h hj'
    rw [List.getElem_take]
    simp; omega
  have h3 : (L[i] :: L.drop (i + 1)).filter (fun p => decide (p.1 ≠ (L[i]).1)) = L.drop (i + 1) := by
    rw [List.filter_cons_of_neg (by simp)]
    exact List.filter_eq_self.2 fun p hp => by
      obtain ⟨j, hj, rfl⟩ := List.mem_iff_getElem.1 hp
      rw [List.getElem_drop]
      have hj' : i + 1 + j < L.length := by simp at hj; omega
      have := hd i (i + 1 + j) h hj' (by omega)
      simp; omega
  rw [h1, h2, h3, List.append_nil]
theorem keepTo_mem {L : List (Int × StC)} {lo hi : Int} {i : Nat} {p : Int × StC} (h : p ∈ keepTo L lo hi i) : p ∈ L := by
  unfold keepTo SM.keep at h
  rcases List.mem_append.1 h with h | h
  · exact List.mem_of_mem_take (List.mem_filter.1 h).1
  · exact List.mem_of_mem_drop h
theorem keepTo_len {L : List (Int × StC)} (lo hi : Int) {i : Nat} (hi' : i ≤ L.length) : (keepTo L lo hi i).length ≤ L.length := by
  unfold keepTo SM.keep
  rw [List.length_append, List.length_drop]
  have := List.length_filter_le (fun p : Int × StC => decide (lo ≤ p.1) && decide (p.1 ≤ hi)) (L.take i)
  rw [List.length_take] at this
  omega
theorem len_step {L : List (Int × StC)} (hr : SM.Rising L) {lo hi : Int} {i : Nat} (h : i < L.length) (hk : (L[i]).1 < lo ∨ hi < (L[i]).1) : (keepTo L lo hi (i + 1)).length + 1 = (keepTo L lo hi i).length := by
  unfold keepTo SM.keep
  rw [List.take_succ_eq_append_getElem h, List.filter_append, List.length_append, List.length_append, List.length_append, List.length_drop, List.length_drop]
  have h1 : [L[i]].filter (fun p => decide (lo ≤ p.1) && decide (p.1 ≤ hi)) = [] := List.filter_eq_nil_iff.2 fun p hp => by
    obtain rfl : p = L[i] := by simpa using hp
    simp; omega
  rw [h1]
  simp only [List.length_nil]
  omega
set_option maxHeartbeats 4000000 in
set_option maxRecDepth 100000 in
theorem keep_nil (w : World) (lo hi : Int) : Calls Try.prog 11 #[.pointer none, .int .i64 lo, .int .i64 hi] w fun e w' => e = .returned (.int .i64 0) ∧ w = w' := by
  go_enter Try.func11, Try.ntmps11
  go_wp2_with (go_at_call 13; (with_reducible refine (numbers_nil _).mono ?_); rintro e w1 ⟨rfl, rfl⟩)
  go_loopg [7, 13] 0 (fun gh u v wr => u = .int .i64 0 ∧ v = .int .i64 0 ∧ w = wr)
  case atStart => exact ⟨rfl, rfl, rfl⟩
  case round =>
    obtain ⟨rfl, rfl, rfl⟩ := hrel
    go_wp2_with fail
    go_ret
    exact ⟨rfl, rfl⟩
set_option maxHeartbeats 4000000 in
set_option maxRecDepth 100000 in
theorem keep_any {w : World} {p mb n : Nat} {period : Int} {L : List (Int × StC)} (hS : SnAt w p mb n period L) (hl : L.length ≤ 100000) (lo hi : Int) :
    Calls Try.prog 11 #[.pointer (some ⟨p, 0, none⟩), .int .i64 lo, .int .i64 hi] w fun e w' => e = .returned (.int .i64 ((L.length - (SM.keep L lo hi).length : Nat) : Int)) ∧ SnAt w' p mb n period (SM.keep L lo hi) ∧ Only (fun k => k = mb) w w' := by
  have hnum := Lib.hid (numbers_any hS.blk hS.map hS.rise (by omega))
  have hmw := hS.map.lt
  have hpw := hS.blk.lt
  have hmp : ¬ p = mb := fun e => by
    obtain ⟨es, clock, h1, _⟩ := hS.map
    have h3 : w.heap[p]? = _ := hS.blk
    rw [e, h1] at h3; cases h3
  replace hS := Lib.hid hS
  go_enter Try.func11, Try.ntmps11
  go_wp2_with (go_at_call 13; (with_reducible refine hnum.out.mono ?_); rintro e w2 ⟨v, rfl, hN2, hb2⟩; have hN2' : NumAt w2 w.heap.size v (L.map Prod.fst) := (by unfold NumAt; rw [List.length_map]; exact hN2); obtain ⟨a, c, rfl, hrow⟩ := hN2'.slice; replace hrow := Lib.hid hrow; clear hN2 hN2')
  have hS2 := Lib.hid (hS.out.below hb2)
  obtain ⟨m, hm⟩ : ∃ m, L.length = m := ⟨_, rfl⟩
  rw [hm] at hl ⊢
  replace hm := Lib.hid hm
  have hfin := Lib.hid (fun wr (hO : Only (fun k => k = mb) w2 wr) => (Only.of_below hb2).trans hO)
  replace hb2 := Lib.hid hb2
  clear hnum
  go_loopg [7, 13] m (fun gh gv iv wr => ∃ i g : Nat, gh = m - i ∧ gv = .int .i64 (g : Int) ∧ iv = .int .i64 (i : Int) ∧ i ≤ m ∧ Hid (g + (keepTo L lo hi i).length = m) ∧ Hid (KMap wr mb n (keepTo L lo hi i)) ∧ Hid (Only (fun k => k = mb) w2 wr))
  case atStart => exact ⟨0, 0, rfl, rfl, rfl, Nat.zero_le _, Lib.hid (by rw [keepTo_zero, hm.out, Nat.zero_add]), Lib.hid (by rw [keepTo_zero]; exact hS2.out.map), Lib.hid (Only.refl _ _)⟩
  case round =>
    obtain ⟨i, g, rfl, rfl, rfl, him, hg, hM, hO⟩ := hrel
    by_cases hlt : i < m
    · have hi' : i < L.length := by rw [hm.out]; exact hlt
      obtain ⟨rb, rfl, hrb1, hrb2, hcell⟩ := hrow.out (by rw [List.length_map]; omega)
      have ci := hcell i (by rw [List.length_map]; exact hi')
      rw [List.getElem_map] at ci
      have hkk := hS.out.keys _ (List.getElem_mem hi')
      have ck : wr.cell? ⟨rb, i, none⟩ = some (.int .i64 (L[i]).1) := (World.cell?_of_block (a := ⟨rb, i, none⟩) (hO.out.block rb hrb2 (by show ¬ rb = mb; omega))).trans ci
      have cp : wr.cell? ⟨p, 1, none⟩ = some (.map (some mb)) := (hS2.out.blk.only hO.out hmp).cell 1
      have plr : p < wr.heap.size := (hS2.out.blk.only hO.out hmp).lt
      have rlr : rb < wr.heap.size := Nat.lt_of_lt_of_le hrb2 hO.out.size
      have hout := Lib.hid (fun h => keepTo_out (lo := lo) (hi := hi) hS.out.rise hi' h)
      have hin := Lib.hid (fun h => keepTo_in (lo := lo) (hi := hi) hi' h)
      have hst := Lib.hid (fun h => len_step (lo := lo) (hi := hi) hS.out.rise hi' h)
      obtain ⟨k, hk⟩ : ∃ k, (L[i]).1 = k := ⟨_, rfl⟩
      rw [hk] at ck hkk hout hin hst
      have hit : (i : Int) < (m : Int) := by omega
      have hi0 : (0 : Int) ≤ (i : Int) := by omega
      have hgl : g ≤ 100000 := by have := hg.out; omega
      clear ci hcell
      replace hk := Lib.hid hk
      by_cases ho : k < lo ∨ hi < k
      · have hM2 : Hid (wr.ownsMap Try.prog 3 RV mb n (dataOf (keepTo L lo hi i))) := Lib.hid hM.out
        have hlen := hst.out ho
        have hget := hout.out ho
        replace hlen := Lib.hid hlen
        replace hget := Lib.hid hget
        have hif : ∀ b1 b2, decide (k < lo) = b1 → decide (hi < k) = b2 → Hid ((b1 || b2) = true) := fun b1 b2 h1 h2 => Lib.hid (by rw [← h1, ← h2]; simpa using ho)
        obtain ⟨b1, hb1⟩ : ∃ b, decide (k < lo) = b := ⟨_, rfl⟩
        obtain ⟨b2, hb2'⟩ : ∃ b, decide (hi < k) = b := ⟨_, rfl⟩
        have hbb := hif b1 b2 hb1 hb2'
        clear hif ho hout hin hst
        have hgw : IntKind.i64.wrap ((g : Int) + 1) = (g : Int) + 1 := IntWalk.i64_in _ (by omega)
        have hkey := keyL k hkk
        cases b1 with
        | true =>
          go_wp2_with (at_delete; refine wpList_delete_own _ rfl (.tmp 28) (.tmp 29) 59 3 rfl 43 (Go.Maps.int_keyed Try.underlying3) Try.underlying59 RV mb n (dataOf (keepTo L lo hi i)) rfl hM2.out _ _ rfl hkey ?_; intro w7 hM7 hT7; replace hM7 := Lib.hid hM7; replace hT7 := Lib.hid hT7)
          go_roundg (m - (i + 1))
          case measure => omega
          case rel => exact ⟨i + 1, g + 1, rfl, by go_num, by go_num, by omega, Lib.hid (by have := hg.out; have := hlen.out; omega), Lib.hid (by have := hM7.out; rw [del_data] at this; rw [hget.out]; exact this), Lib.hid (hO.out.trans (only_grown hT7.out.grown))⟩
        | false =>
          obtain rfl : b2 = true := hbb.out
          go_wp2_with (at_delete; refine wpList_delete_own _ rfl (.tmp 28) (.tmp 29) 59 3 rfl 43 (Go.Maps.int_keyed Try.underlying3) Try.underlying59 RV mb n (dataOf (keepTo L lo hi i)) rfl hM2.out _ _ rfl hkey ?_; intro w7 hM7 hT7; replace hM7 := Lib.hid hM7; replace hT7 := Lib.hid hT7)
          go_roundg (m - (i + 1))
          case measure => omega
          case rel => exact ⟨i + 1, g + 1, rfl, by go_num, by go_num, by omega, Lib.hid (by have := hg.out; have := hlen.out; omega), Lib.hid (by have := hM7.out; rw [del_data] at this; rw [hget.out]; exact this), Lib.hid (hO.out.trans (only_grown hT7.out.grown))⟩
      · have q1 : decide (k < lo) = false := by simp; omega
        have q2 : decide (hi < k) = false := by simp; omega
        have hget := Lib.hid (hin.out ⟨by omega, by omega⟩)
        clear hout hin hst
        go_wp2_with fail
        go_roundg (m - (i + 1))
        case measure => omega
        case rel => exact ⟨i + 1, g, rfl, rfl, by go_num, by omega, Lib.hid (by rw [hget.out]; exact hg.out), Lib.hid (by rw [hget.out]; exact hM.out), hO⟩
    · obtain rfl : i = m := by omega
      have hk : keepTo L lo hi i = SM.keep L lo hi := by have := keepTo_end L lo hi; rw [hm.out] at this; exact this
      have hgv : g = i - (SM.keep L lo hi).length := by have := hg.out; rw [hk] at this; omega
      have hM3 := hM.out
      rw [hk] at hM3
      have hr := Lib.hid (⟨(hS2.out.blk.only hO.out hmp), hM3, SM.keep_rising hS.out.rise lo hi, fun x hx => hS.out.keys x (List.mem_filter.1 hx).1⟩ : SnAt wr p mb n period (SM.keep L lo hi))
      replace hgv := Lib.hid hgv
      clear hk hM3
      go_wp2_with fail
      go_ret
      exact ⟨by rw [hm.out, ← hgv.out]; rfl, hr.out, hfin.out _ hO.out⟩
end Go.Proofs.Ytfidmpkblmebeaa
