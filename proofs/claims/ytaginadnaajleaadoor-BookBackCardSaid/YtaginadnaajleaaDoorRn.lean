/-
  The reference's line: at capacity, period, fuel; of chapter 32 (printed by gen_rl.py).
  Conditions: as each theorem states them.
-/
import Derived.Test.YtaginadnaajleaaDoorRl
import Derived.Test.YtaginadnaajleaaDoorNum2
namespace Go.Proofs.YtaginadnaajleaaDoor
open Go.RowKit
set_option linter.unusedVariables false
set_option linter.unusedSimpArgs false
open BM (Cs)
theorem dig_not {c : UInt8} (h : ¬ dig c = true) : c.toNat < 48 ∨ 57 < c.toNat := by
  unfold dig at h
  simp at h
  omega
set_option maxHeartbeats 4000000 in
set_option maxRecDepth 100000 in
theorem rline_capacity (r : List UInt8) (hr : r.length ≤ 90000) (w : World) (g base : Nat) (c : Cs) (hC : CaseAt w g base c) (hS : Small c) (hbase : base ≤ w.heap.size) : Calls Tryd.prog 12 #[.pointer (some ⟨g, 0, none⟩), strV (BM.capacityW ++ 32 :: r)] w (ReadIs (BM.capR r c) g base w) := by
  obtain ⟨s, hs⟩ : ∃ s, BM.capacityW ++ 32 :: r = s := ⟨_, rfl⟩
  obtain ⟨f1, f2, f3, f4⟩ := line_facts hs (by decide)
  have hbl := blank_any s (by rw [f4]; simp [BM.capacityW]; omega) w
  rw [f1] at hbl
  simp only [BM.capacityW, List.length_cons, List.length_nil, Nat.zero_add, Nat.reduceAdd] at f2 f3 f4 hbl
  rw [hs]
  replace hbl := Lib.hid hbl
  have k1 : (8 : Int) ≤ (s.length : Int) := by omega
  have k2 : (9 : Int) ≤ (s.length : Int) := by omega
  replace f4 := Lib.hid f4
  clear f1 hs
  obtain ⟨RR, hRR⟩ : ∃ RR, BM.capR r c = RR := ⟨_, rfl⟩
  rw [hRR]
  obtain ⟨c2, w2, hc2, hb2, hr2, hl2⟩ := conv_bytes (P := Tryd.prog) w 9 23 5 r Tryd.underlying9 Tryd.underlying23 Tryd.underlying5
  have hn2 : Calls Tryd.prog 28 #[.slice (some ⟨w.heap.size, 0, none⟩) r.length c2, .int .i64 0, .int .i64 1073741824] w2 fun e w' => e = .returned (.tuple #[.int .i64 (numS r 0 1073741824).1, .int .i64 (numS r 0 1073741824).2.1, .int .i64 (numS r 0 1073741824).2.2]) ∧ w2 = w' := refnum_in (some ⟨w.heap.size, 0, none⟩) c2 r 0 1073741824 w2 (by omega) (by omega) (by omega) (fun _ => ⟨_, _, rfl, hr2⟩)
  have hnot := fun (h : r.all dig = false) => (show BM.capR r c = (9, c) by simp [BM.capR, BM.numAll, h])
  have hyes := fun (h : r.all dig = true) => (show BM.capR r c = if (numS r 0 1073741824).2.2 = 0 then (0, { c with cap := (numS r 0 1073741824).1 }) else ((numS r 0 1073741824).2.2, c) by unfold BM.capR BM.numAll; rw [if_pos h])
  rw [hRR] at hnot hyes
  obtain ⟨⟨n, p, x⟩, hN⟩ : ∃ N, numS r 0 1073741824 = N := ⟨_, rfl⟩
  rw [hN] at hn2 hyes
  simp only at hn2 hyes
  replace hnot := Lib.hid hnot
  replace hyes := Lib.hid hyes
  replace hn2 := Lib.hid hn2
  replace hC := Lib.hid hC
  replace hb2 := Lib.hid hb2
  clear hr2 hN hRR
  go_enter Tryd.func12, Tryd.ntmps12
  go_wp2_with (go_at_call 25; refine hbl.out.mono ?_; rintro e w2 ⟨rfl, rfl⟩)
  clear hbl f2 f3 k1 k2 f4
  go_loopg [13] r.length (fun gh i wr => ∃ k : Nat, gh = r.length - k ∧ i = .int .i64 (k : Int) ∧ k ≤ r.length ∧ Hid (AllB dig k r) ∧ w = wr)
  case atStart => exact ⟨0, rfl, rfl, by omega, Lib.hid (fun i _ h => by omega), rfl⟩
  case round =>
    obtain ⟨k, rfl, rfl, hk, hn, rfl⟩ := hrel
    by_cases hlt : k < r.length
    · have hby := SH.ba_at hlt (by rw [SH.ba_size]; exact hlt)
      by_cases hp : dig r[k] = true
      · have hn' := Lib.hid (hn.out.succ hlt hp)
        have hd : 48 ≤ r[k].toNat ∧ r[k].toNat ≤ 57 := by unfold dig at hp; simpa using hp
        have q1 : decide ((((⟨r.toArray⟩ : ByteArray)[k]'(by rw [SH.ba_size]; exact hlt)).toNat : Int) < 48) = false := by rw [hby, decide_eq_false_iff_not]; omega
        have q2 : decide ((57 : Int) < (((⟨r.toArray⟩ : ByteArray)[k]'(by rw [SH.ba_size]; exact hlt)).toNat : Int)) = false := by rw [hby, decide_eq_false_iff_not]; omega
        have q3 : ¬ ((⟨r.toArray⟩ : ByteArray)[k]'(by rw [SH.ba_size]; exact hlt)).toNat < 48 := by rw [hby]; omega
        have q4 : ¬ 57 < ((⟨r.toArray⟩ : ByteArray)[k]'(by rw [SH.ba_size]; exact hlt)).toNat := by rw [hby]; omega
        clear hn hp hby hd hc2
        go_wp2_with fail
        all_goals go_roundg (r.length - (k + 1))
        case measure => omega
        case rel => exact ⟨k + 1, rfl, by go_num, by omega, hn', rfl⟩
      · have hR := Lib.hid (hnot.out (all_not hlt (by simpa using hp)))
        rcases dig_not hp with hd | hd
        · have q3 : ((⟨r.toArray⟩ : ByteArray)[k]'(by rw [SH.ba_size]; exact hlt)).toNat < 48 := by rw [hby]; omega
          have q1 : decide ((((⟨r.toArray⟩ : ByteArray)[k]'(by rw [SH.ba_size]; exact hlt)).toNat : Int) < 48) = true := by rw [decide_eq_true_eq]; omega
          clear hn hp hby hd hc2
          go_wp2_with fail
          all_goals go_ret
          all_goals exact ⟨(by rw [hR.out]; rfl), (by rw [hR.out]; exact hC.out), Only.refl _ _⟩
        · have q3 : 57 < ((⟨r.toArray⟩ : ByteArray)[k]'(by rw [SH.ba_size]; exact hlt)).toNat := by rw [hby]; omega
          have q1 : decide ((57 : Int) < (((⟨r.toArray⟩ : ByteArray)[k]'(by rw [SH.ba_size]; exact hlt)).toNat : Int)) = true := by rw [decide_eq_true_eq]; omega
          have q2 : decide ((((⟨r.toArray⟩ : ByteArray)[k]'(by rw [SH.ba_size]; exact hlt)).toNat : Int) < 48) = false := by rw [decide_eq_false_iff_not]; omega
          have q4 : ¬ ((⟨r.toArray⟩ : ByteArray)[k]'(by rw [SH.ba_size]; exact hlt)).toNat < 48 := by omega
          clear hn hp hby hd hc2
          go_wp2_with fail
          all_goals go_ret
          all_goals exact ⟨(by rw [hR.out]; rfl), (by rw [hR.out]; exact hC.out), Only.refl _ _⟩
    · obtain rfl : k = r.length := by omega
      have hR := hyes.out (hn.out.all (Nat.le_refl _))
      by_cases hx : x = 0
      · rw [if_pos hx] at hR
        have q1 : (x != 0) = false := by simpa using hx
        obtain ⟨vs, vi, vf, vl, fv, h⟩ := hC.out
        have hc3 := h.bw hb2.out
        obtain ⟨m1, m2⟩ := hc3.field 7 (.int .i64 n) (c' := { c with cap := n }) rfl rfl rfl rfl rfl
        have k7 : w2.cell? ⟨g, 7, none⟩ = some (.int .i64 c.cap) := hc3.blk.cell 7
        have k8 := hc3.blk.free 7
        have hgw := hc3.blk.lt
        replace hR := Lib.hid hR
        replace m1 := Lib.hid m1
        replace m2 := Lib.hid m2
        replace hx := Lib.hid hx
        clear hn h hc3
        go_wp2_with (go_at_call 28; refine hn2.out.mono ?_; rintro e w3 ⟨rfl, rfl⟩)
        all_goals go_ret
        all_goals exact ⟨(by rw [hR.out]; rfl), (by rw [hR.out]; exact ⟨_, _, _, _, _, m1.out⟩), (Only.of_below hb2.out).trans m2.out⟩
      · rw [if_neg hx] at hR
        have q1 : (x != 0) = true := by simpa using hx
        replace hR := Lib.hid hR
        replace hx := Lib.hid hx
        clear hn
        go_wp2_with (go_at_call 28; refine hn2.out.mono ?_; rintro e w3 ⟨rfl, rfl⟩)
        all_goals go_ret
        all_goals exact ⟨(by rw [hR.out]; rfl), (by rw [hR.out]; exact hC.out.bw hb2.out), Only.of_below hb2.out⟩
set_option maxHeartbeats 4000000 in
set_option maxRecDepth 100000 in
theorem rline_period (r : List UInt8) (hr : r.length ≤ 90000) (w : World) (g base : Nat) (c : Cs) (hC : CaseAt w g base c) (hS : Small c) (hbase : base ≤ w.heap.size) : Calls Tryd.prog 12 #[.pointer (some ⟨g, 0, none⟩), strV (BM.periodW ++ 32 :: r)] w (ReadIs (BM.periodR r c) g base w) := by
  obtain ⟨s, hs⟩ : ∃ s, BM.periodW ++ 32 :: r = s := ⟨_, rfl⟩
  obtain ⟨f1, f2, f3, f4⟩ := line_facts hs (by decide)
  have hbl := blank_any s (by rw [f4]; simp [BM.periodW]; omega) w
  rw [f1] at hbl
  simp only [BM.periodW, List.length_cons, List.length_nil, Nat.zero_add, Nat.reduceAdd] at f2 f3 f4 hbl
  rw [hs]
  replace hbl := Lib.hid hbl
  have k1 : (6 : Int) ≤ (s.length : Int) := by omega
  have k2 : (7 : Int) ≤ (s.length : Int) := by omega
  replace f4 := Lib.hid f4
  clear f1 hs
  obtain ⟨RR, hRR⟩ : ∃ RR, BM.periodR r c = RR := ⟨_, rfl⟩
  rw [hRR]
  obtain ⟨c2, w2, hc2, hb2, hr2, hl2⟩ := conv_bytes (P := Tryd.prog) w 9 23 5 r Tryd.underlying9 Tryd.underlying23 Tryd.underlying5
  have hn2 : Calls Tryd.prog 28 #[.slice (some ⟨w.heap.size, 0, none⟩) r.length c2, .int .i64 0, .int .i64 1073741824] w2 fun e w' => e = .returned (.tuple #[.int .i64 (numS r 0 1073741824).1, .int .i64 (numS r 0 1073741824).2.1, .int .i64 (numS r 0 1073741824).2.2]) ∧ w2 = w' := refnum_in (some ⟨w.heap.size, 0, none⟩) c2 r 0 1073741824 w2 (by omega) (by omega) (by omega) (fun _ => ⟨_, _, rfl, hr2⟩)
  have hnot := fun (h : r.all dig = false) => (show BM.periodR r c = (9, c) by simp [BM.periodR, BM.numAll, h])
  have hyes := fun (h : r.all dig = true) => (show BM.periodR r c = if (numS r 0 1073741824).2.2 = 0 then (0, { c with period := (numS r 0 1073741824).1 }) else ((numS r 0 1073741824).2.2, c) by unfold BM.periodR BM.numAll; rw [if_pos h])
  rw [hRR] at hnot hyes
  obtain ⟨⟨n, p, x⟩, hN⟩ : ∃ N, numS r 0 1073741824 = N := ⟨_, rfl⟩
  rw [hN] at hn2 hyes
  simp only at hn2 hyes
  replace hnot := Lib.hid hnot
  replace hyes := Lib.hid hyes
  replace hn2 := Lib.hid hn2
  replace hC := Lib.hid hC
  replace hb2 := Lib.hid hb2
  clear hr2 hN hRR
  go_enter Tryd.func12, Tryd.ntmps12
  go_wp2_with (go_at_call 25; refine hbl.out.mono ?_; rintro e w2 ⟨rfl, rfl⟩)
  clear hbl f2 f3 k1 k2 f4
  go_loopg [13] r.length (fun gh i wr => ∃ k : Nat, gh = r.length - k ∧ i = .int .i64 (k : Int) ∧ k ≤ r.length ∧ Hid (AllB dig k r) ∧ w = wr)
  case atStart => exact ⟨0, rfl, rfl, by omega, Lib.hid (fun i _ h => by omega), rfl⟩
  case round =>
    obtain ⟨k, rfl, rfl, hk, hn, rfl⟩ := hrel
    by_cases hlt : k < r.length
    · have hby := SH.ba_at hlt (by rw [SH.ba_size]; exact hlt)
      by_cases hp : dig r[k] = true
      · have hn' := Lib.hid (hn.out.succ hlt hp)
        have hd : 48 ≤ r[k].toNat ∧ r[k].toNat ≤ 57 := by unfold dig at hp; simpa using hp
        have q1 : decide ((((⟨r.toArray⟩ : ByteArray)[k]'(by rw [SH.ba_size]; exact hlt)).toNat : Int) < 48) = false := by rw [hby, decide_eq_false_iff_not]; omega
        have q2 : decide ((57 : Int) < (((⟨r.toArray⟩ : ByteArray)[k]'(by rw [SH.ba_size]; exact hlt)).toNat : Int)) = false := by rw [hby, decide_eq_false_iff_not]; omega
        have q3 : ¬ ((⟨r.toArray⟩ : ByteArray)[k]'(by rw [SH.ba_size]; exact hlt)).toNat < 48 := by rw [hby]; omega
        have q4 : ¬ 57 < ((⟨r.toArray⟩ : ByteArray)[k]'(by rw [SH.ba_size]; exact hlt)).toNat := by rw [hby]; omega
        clear hn hp hby hd hc2
        go_wp2_with fail
        all_goals go_roundg (r.length - (k + 1))
        case measure => omega
        case rel => exact ⟨k + 1, rfl, by go_num, by omega, hn', rfl⟩
      · have hR := Lib.hid (hnot.out (all_not hlt (by simpa using hp)))
        rcases dig_not hp with hd | hd
        · have q3 : ((⟨r.toArray⟩ : ByteArray)[k]'(by rw [SH.ba_size]; exact hlt)).toNat < 48 := by rw [hby]; omega
          have q1 : decide ((((⟨r.toArray⟩ : ByteArray)[k]'(by rw [SH.ba_size]; exact hlt)).toNat : Int) < 48) = true := by rw [decide_eq_true_eq]; omega
          clear hn hp hby hd hc2
          go_wp2_with fail
          all_goals go_ret
          all_goals exact ⟨(by rw [hR.out]; rfl), (by rw [hR.out]; exact hC.out), Only.refl _ _⟩
        · have q3 : 57 < ((⟨r.toArray⟩ : ByteArray)[k]'(by rw [SH.ba_size]; exact hlt)).toNat := by rw [hby]; omega
          have q1 : decide ((57 : Int) < (((⟨r.toArray⟩ : ByteArray)[k]'(by rw [SH.ba_size]; exact hlt)).toNat : Int)) = true := by rw [decide_eq_true_eq]; omega
          have q2 : decide ((((⟨r.toArray⟩ : ByteArray)[k]'(by rw [SH.ba_size]; exact hlt)).toNat : Int) < 48) = false := by rw [decide_eq_false_iff_not]; omega
          have q4 : ¬ ((⟨r.toArray⟩ : ByteArray)[k]'(by rw [SH.ba_size]; exact hlt)).toNat < 48 := by omega
          clear hn hp hby hd hc2
          go_wp2_with fail
          all_goals go_ret
          all_goals exact ⟨(by rw [hR.out]; rfl), (by rw [hR.out]; exact hC.out), Only.refl _ _⟩
    · obtain rfl : k = r.length := by omega
      have hR := hyes.out (hn.out.all (Nat.le_refl _))
      by_cases hx : x = 0
      · rw [if_pos hx] at hR
        have q1 : (x != 0) = false := by simpa using hx
        obtain ⟨vs, vi, vf, vl, fv, h⟩ := hC.out
        have hc3 := h.bw hb2.out
        obtain ⟨m1, m2⟩ := hc3.field 8 (.int .i64 n) (c' := { c with period := n }) rfl rfl rfl rfl rfl
        have k7 : w2.cell? ⟨g, 8, none⟩ = some (.int .i64 c.period) := hc3.blk.cell 8
        have k8 := hc3.blk.free 8
        have hgw := hc3.blk.lt
        replace hR := Lib.hid hR
        replace m1 := Lib.hid m1
        replace m2 := Lib.hid m2
        replace hx := Lib.hid hx
        clear hn h hc3
        go_wp2_with (go_at_call 28; refine hn2.out.mono ?_; rintro e w3 ⟨rfl, rfl⟩)
        all_goals go_ret
        all_goals exact ⟨(by rw [hR.out]; rfl), (by rw [hR.out]; exact ⟨_, _, _, _, _, m1.out⟩), (Only.of_below hb2.out).trans m2.out⟩
      · rw [if_neg hx] at hR
        have q1 : (x != 0) = true := by simpa using hx
        replace hR := Lib.hid hR
        replace hx := Lib.hid hx
        clear hn
        go_wp2_with (go_at_call 28; refine hn2.out.mono ?_; rintro e w3 ⟨rfl, rfl⟩)
        all_goals go_ret
        all_goals exact ⟨(by rw [hR.out]; rfl), (by rw [hR.out]; exact hC.out.bw hb2.out), Only.of_below hb2.out⟩
set_option maxHeartbeats 4000000 in
set_option maxRecDepth 100000 in
theorem rline_fuel (r : List UInt8) (hr : r.length ≤ 90000) (w : World) (g base : Nat) (c : Cs) (hC : CaseAt w g base c) (hS : Small c) (hbase : base ≤ w.heap.size) : Calls Tryd.prog 12 #[.pointer (some ⟨g, 0, none⟩), strV (BM.fuelW ++ 32 :: r)] w (ReadIs (BM.fuelR r c) g base w) := by
  obtain ⟨s, hs⟩ : ∃ s, BM.fuelW ++ 32 :: r = s := ⟨_, rfl⟩
  obtain ⟨f1, f2, f3, f4⟩ := line_facts hs (by decide)
  have hbl := blank_any s (by rw [f4]; simp [BM.fuelW]; omega) w
  rw [f1] at hbl
  simp only [BM.fuelW, List.length_cons, List.length_nil, Nat.zero_add, Nat.reduceAdd] at f2 f3 f4 hbl
  rw [hs]
  replace hbl := Lib.hid hbl
  have k1 : (4 : Int) ≤ (s.length : Int) := by omega
  have k2 : (5 : Int) ≤ (s.length : Int) := by omega
  replace f4 := Lib.hid f4
  clear f1 hs
  obtain ⟨RR, hRR⟩ : ∃ RR, BM.fuelR r c = RR := ⟨_, rfl⟩
  rw [hRR]
  obtain ⟨c2, w2, hc2, hb2, hr2, hl2⟩ := conv_bytes (P := Tryd.prog) w 9 23 5 r Tryd.underlying9 Tryd.underlying23 Tryd.underlying5
  have hn2 : Calls Tryd.prog 28 #[.slice (some ⟨w.heap.size, 0, none⟩) r.length c2, .int .i64 0, .int .i64 1073741824] w2 fun e w' => e = .returned (.tuple #[.int .i64 (numS r 0 1073741824).1, .int .i64 (numS r 0 1073741824).2.1, .int .i64 (numS r 0 1073741824).2.2]) ∧ w2 = w' := refnum_in (some ⟨w.heap.size, 0, none⟩) c2 r 0 1073741824 w2 (by omega) (by omega) (by omega) (fun _ => ⟨_, _, rfl, hr2⟩)
  have hnot := fun (h : r.all dig = false) => (show BM.fuelR r c = (9, c) by simp [BM.fuelR, BM.numAll, h])
  have hyes := fun (h : r.all dig = true) => (show BM.fuelR r c = if (numS r 0 1073741824).2.2 = 0 then (0, { c with fuel := (numS r 0 1073741824).1 }) else ((numS r 0 1073741824).2.2, c) by unfold BM.fuelR BM.numAll; rw [if_pos h])
  rw [hRR] at hnot hyes
  obtain ⟨⟨n, p, x⟩, hN⟩ : ∃ N, numS r 0 1073741824 = N := ⟨_, rfl⟩
  rw [hN] at hn2 hyes
  simp only at hn2 hyes
  replace hnot := Lib.hid hnot
  replace hyes := Lib.hid hyes
  replace hn2 := Lib.hid hn2
  replace hC := Lib.hid hC
  replace hb2 := Lib.hid hb2
  clear hr2 hN hRR
  go_enter Tryd.func12, Tryd.ntmps12
  go_wp2_with (go_at_call 25; refine hbl.out.mono ?_; rintro e w2 ⟨rfl, rfl⟩)
  clear hbl f2 f3 k1 k2 f4
  go_loopg [13] r.length (fun gh i wr => ∃ k : Nat, gh = r.length - k ∧ i = .int .i64 (k : Int) ∧ k ≤ r.length ∧ Hid (AllB dig k r) ∧ w = wr)
  case atStart => exact ⟨0, rfl, rfl, by omega, Lib.hid (fun i _ h => by omega), rfl⟩
  case round =>
    obtain ⟨k, rfl, rfl, hk, hn, rfl⟩ := hrel
    by_cases hlt : k < r.length
    · have hby := SH.ba_at hlt (by rw [SH.ba_size]; exact hlt)
      by_cases hp : dig r[k] = true
      · have hn' := Lib.hid (hn.out.succ hlt hp)
        have hd : 48 ≤ r[k].toNat ∧ r[k].toNat ≤ 57 := by unfold dig at hp; simpa using hp
        have q1 : decide ((((⟨r.toArray⟩ : ByteArray)[k]'(by rw [SH.ba_size]; exact hlt)).toNat : Int) < 48) = false := by rw [hby, decide_eq_false_iff_not]; omega
        have q2 : decide ((57 : Int) < (((⟨r.toArray⟩ : ByteArray)[k]'(by rw [SH.ba_size]; exact hlt)).toNat : Int)) = false := by rw [hby, decide_eq_false_iff_not]; omega
        have q3 : ¬ ((⟨r.toArray⟩ : ByteArray)[k]'(by rw [SH.ba_size]; exact hlt)).toNat < 48 := by rw [hby]; omega
        have q4 : ¬ 57 < ((⟨r.toArray⟩ : ByteArray)[k]'(by rw [SH.ba_size]; exact hlt)).toNat := by rw [hby]; omega
        clear hn hp hby hd hc2
        go_wp2_with fail
        all_goals go_roundg (r.length - (k + 1))
        case measure => omega
        case rel => exact ⟨k + 1, rfl, by go_num, by omega, hn', rfl⟩
      · have hR := Lib.hid (hnot.out (all_not hlt (by simpa using hp)))
        rcases dig_not hp with hd | hd
        · have q3 : ((⟨r.toArray⟩ : ByteArray)[k]'(by rw [SH.ba_size]; exact hlt)).toNat < 48 := by rw [hby]; omega
          have q1 : decide ((((⟨r.toArray⟩ : ByteArray)[k]'(by rw [SH.ba_size]; exact hlt)).toNat : Int) < 48) = true := by rw [decide_eq_true_eq]; omega
          clear hn hp hby hd hc2
          go_wp2_with fail
          all_goals go_ret
          all_goals exact ⟨(by rw [hR.out]; rfl), (by rw [hR.out]; exact hC.out), Only.refl _ _⟩
        · have q3 : 57 < ((⟨r.toArray⟩ : ByteArray)[k]'(by rw [SH.ba_size]; exact hlt)).toNat := by rw [hby]; omega
          have q1 : decide ((57 : Int) < (((⟨r.toArray⟩ : ByteArray)[k]'(by rw [SH.ba_size]; exact hlt)).toNat : Int)) = true := by rw [decide_eq_true_eq]; omega
          have q2 : decide ((((⟨r.toArray⟩ : ByteArray)[k]'(by rw [SH.ba_size]; exact hlt)).toNat : Int) < 48) = false := by rw [decide_eq_false_iff_not]; omega
          have q4 : ¬ ((⟨r.toArray⟩ : ByteArray)[k]'(by rw [SH.ba_size]; exact hlt)).toNat < 48 := by omega
          clear hn hp hby hd hc2
          go_wp2_with fail
          all_goals go_ret
          all_goals exact ⟨(by rw [hR.out]; rfl), (by rw [hR.out]; exact hC.out), Only.refl _ _⟩
    · obtain rfl : k = r.length := by omega
      have hR := hyes.out (hn.out.all (Nat.le_refl _))
      by_cases hx : x = 0
      · rw [if_pos hx] at hR
        have q1 : (x != 0) = false := by simpa using hx
        obtain ⟨vs, vi, vf, vl, fv, h⟩ := hC.out
        have hc3 := h.bw hb2.out
        obtain ⟨m1, m2⟩ := hc3.field 9 (.int .i64 n) (c' := { c with fuel := n }) rfl rfl rfl rfl rfl
        have k7 : w2.cell? ⟨g, 9, none⟩ = some (.int .i64 c.fuel) := hc3.blk.cell 9
        have k8 := hc3.blk.free 9
        have hgw := hc3.blk.lt
        replace hR := Lib.hid hR
        replace m1 := Lib.hid m1
        replace m2 := Lib.hid m2
        replace hx := Lib.hid hx
        clear hn h hc3
        go_wp2_with (go_at_call 28; refine hn2.out.mono ?_; rintro e w3 ⟨rfl, rfl⟩)
        all_goals go_ret
        all_goals exact ⟨(by rw [hR.out]; rfl), (by rw [hR.out]; exact ⟨_, _, _, _, _, m1.out⟩), (Only.of_below hb2.out).trans m2.out⟩
      · rw [if_neg hx] at hR
        have q1 : (x != 0) = true := by simpa using hx
        replace hR := Lib.hid hR
        replace hx := Lib.hid hx
        clear hn
        go_wp2_with (go_at_call 28; refine hn2.out.mono ?_; rintro e w3 ⟨rfl, rfl⟩)
        all_goals go_ret
        all_goals exact ⟨(by rw [hR.out]; rfl), (by rw [hR.out]; exact hC.out.bw hb2.out), Only.of_below hb2.out⟩
end Go.Proofs.YtaginadnaajleaaDoor
/-
  The reference's line: all; of chapter 32 (printed by gen_rl.py).
  Conditions: as each theorem states them.
-/
namespace Go.Proofs.YtaginadnaajleaaDoor
open Go.RowKit
set_option linter.unusedVariables false
set_option linter.unusedSimpArgs false
open BM (Cs)
theorem look_none {wd : List UInt8} (h_sed : wd ≠ BM.sedW) (h_option : wd ≠ BM.optionW) (h_input : wd ≠ BM.inputW) (h_file : wd ≠ BM.fileW) (h_capacity : wd ≠ BM.capacityW) (h_period : wd ≠ BM.periodW) (h_fuel : wd ≠ BM.fuelW) (h_do : wd ≠ BM.doW) : BM.look wd = none := by
  simp [BM.look, BM.readers, Ne.symm h_sed, Ne.symm h_option, Ne.symm h_input, Ne.symm h_file, Ne.symm h_capacity, Ne.symm h_period, Ne.symm h_fuel, Ne.symm h_do]
theorem blank_split0 {r : List UInt8} (h : 0 ≤ blankI r) : ∃ nm tx, nm ++ 32 :: tx = r ∧ 32 ∉ nm := by
  have hl : (r.takeWhile OM.nb).length < r.length := by
    unfold blankI at h
    split at h
    · assumption
    · omega
  have hn : 32 ∉ r.takeWhile OM.nb := fun hm => by
    have h2 := List.all_takeWhile (p := OM.nb) (l := r)
    rw [List.all_eq_true] at h2
    have := h2 32 hm
    simp [OM.nb] at this
  have hd := List.head?_dropWhile_not OM.nb r
  have hlen : (r.takeWhile OM.nb).length + (r.dropWhile OM.nb).length = r.length := by rw [← List.length_append, List.takeWhile_append_dropWhile]
  cases hdw : r.dropWhile OM.nb with
  | nil => rw [hdw] at hlen; simp at hlen; omega
  | cons x t =>
    rw [hdw] at hd
    simp only [List.head?_cons] at hd
    have hx : x = 32 := by simpa [OM.nb] using hd
    subst hx
    exact ⟨r.takeWhile OM.nb, t, by rw [← hdw, List.takeWhile_append_dropWhile], hn⟩
theorem cut_none {s : List UInt8} (h : 32 ∉ s) : BM.cut s = (s, [], false) := by
  have e : s.takeWhile OM.nb = s := by
    have h2 := List.takeWhile_append_of_pos (p := OM.nb) (l₁ := s) (l₂ := []) (fun c hc => by
      have : c ≠ 32 := fun e => h (e ▸ hc)
      simpa [OM.nb] using this)
    simpa using h2
  unfold BM.cut
  rw [e]
  simp
theorem blank_none {s : List UInt8} (h : 32 ∉ s) : blankI s = -1 := blank_no (fun j hj e => h (e ▸ List.getElem_mem hj))
set_option maxHeartbeats 4000000 in
set_option maxRecDepth 100000 in
theorem rline_other (wd r : List UInt8) (hw : 32 ∉ wd) (h_sed : wd ≠ BM.sedW) (h_option : wd ≠ BM.optionW) (h_input : wd ≠ BM.inputW) (h_file : wd ≠ BM.fileW) (h_capacity : wd ≠ BM.capacityW) (h_period : wd ≠ BM.periodW) (h_fuel : wd ≠ BM.fuelW) (h_do : wd ≠ BM.doW) (hr : wd.length + r.length ≤ 90000) (w : World) (g base : Nat) (c : Cs) (hC : CaseAt w g base c) (hS : Small c) (hbase : base ≤ w.heap.size) : Calls Tryd.prog 12 #[.pointer (some ⟨g, 0, none⟩), strV (wd ++ 32 :: r)] w (ReadIs (30, c) g base w) := by
  obtain ⟨s, hs⟩ : ∃ s, wd ++ 32 :: r = s := ⟨_, rfl⟩
  obtain ⟨f1, f2, f3, f4⟩ := line_facts hs hw
  have hbl := blank_any s (by rw [f4]; omega) w
  rw [f1] at hbl
  have q_sed : (wd == [115, 101, 100]) = false := by simpa [BM.sedW] using h_sed
  have q_option : (wd == [111, 112, 116, 105, 111, 110]) = false := by simpa [BM.optionW] using h_option
  have q_input : (wd == [105, 110, 112, 117, 116]) = false := by simpa [BM.inputW] using h_input
  have q_file : (wd == [102, 105, 108, 101]) = false := by simpa [BM.fileW] using h_file
  have q_capacity : (wd == [99, 97, 112, 97, 99, 105, 116, 121]) = false := by simpa [BM.capacityW] using h_capacity
  have q_period : (wd == [112, 101, 114, 105, 111, 100]) = false := by simpa [BM.periodW] using h_period
  have q_fuel : (wd == [102, 117, 101, 108]) = false := by simpa [BM.fuelW] using h_fuel
  have q_do : (wd == [100, 111]) = false := by simpa [BM.doW] using h_do
  rw [hs]
  obtain ⟨m, hm⟩ : ∃ m, wd.length = m := ⟨_, rfl⟩
  rw [hm] at f2 f3 f4 hbl hr
  have k1 : (m : Int) ≤ (s.length : Int) := by omega
  have k2 : (m : Int) + 1 ≤ (s.length : Int) := by omega
  have z1 : IntKind.i64.wrap ((m : Int) + 1) = (m : Int) + 1 := IntWalk.i64_in _ (by omega)
  have z2 : ((m : Int) + 1).toNat = m + 1 := by omega
  have z6 : (0 : Int) ≤ (m : Int) := by omega
  have z7 : (0 : Int) ≤ (m : Int) + 1 := by omega
  replace hbl := Lib.hid hbl
  replace f4 := Lib.hid f4
  replace hm := Lib.hid hm
  replace hC := Lib.hid hC
  clear f1 hs h_sed h_option h_input h_file h_capacity h_period h_fuel h_do
  go_enter Tryd.func12, Tryd.ntmps12
  go_wp2_with (go_at_call 25; refine hbl.out.mono ?_; rintro e w2 ⟨rfl, rfl⟩)
  all_goals go_ret
  all_goals exact ⟨rfl, hC.out, Only.refl _ _⟩
set_option maxHeartbeats 4000000 in
set_option maxRecDepth 100000 in
theorem rline_bare (wd : List UInt8) (hw : 32 ∉ wd) (h_sed : wd ≠ BM.sedW) (h_option : wd ≠ BM.optionW) (h_input : wd ≠ BM.inputW) (h_file : wd ≠ BM.fileW) (h_capacity : wd ≠ BM.capacityW) (h_period : wd ≠ BM.periodW) (h_fuel : wd ≠ BM.fuelW) (h_do : wd ≠ BM.doW) (hr : wd.length ≤ 90000) (w : World) (g base : Nat) (c : Cs) (hC : CaseAt w g base c) (hS : Small c) (hbase : base ≤ w.heap.size) : Calls Tryd.prog 12 #[.pointer (some ⟨g, 0, none⟩), strV wd] w (ReadIs (30, c) g base w) := by
  have hbl := blank_any wd (by omega) w
  rw [blank_none hw] at hbl
  have q_sed : (wd == [115, 101, 100]) = false := by simpa [BM.sedW] using h_sed
  have q_option : (wd == [111, 112, 116, 105, 111, 110]) = false := by simpa [BM.optionW] using h_option
  have q_input : (wd == [105, 110, 112, 117, 116]) = false := by simpa [BM.inputW] using h_input
  have q_file : (wd == [102, 105, 108, 101]) = false := by simpa [BM.fileW] using h_file
  have q_capacity : (wd == [99, 97, 112, 97, 99, 105, 116, 121]) = false := by simpa [BM.capacityW] using h_capacity
  have q_period : (wd == [112, 101, 114, 105, 111, 100]) = false := by simpa [BM.periodW] using h_period
  have q_fuel : (wd == [102, 117, 101, 108]) = false := by simpa [BM.fuelW] using h_fuel
  have q_do : (wd == [100, 111]) = false := by simpa [BM.doW] using h_do
  replace hbl := Lib.hid hbl
  replace hC := Lib.hid hC
  clear h_sed h_option h_input h_file h_capacity h_period h_fuel h_do
  go_enter Tryd.func12, Tryd.ntmps12
  go_wp2_with (go_at_call 25; refine hbl.out.mono ?_; rintro e w2 ⟨rfl, rfl⟩)
  all_goals go_ret
  all_goals exact ⟨rfl, hC.out, Only.refl _ _⟩
set_option maxHeartbeats 4000000 in
set_option maxRecDepth 100000 in
theorem rbare_sed (w : World) (g base : Nat) (c : Cs) (hC : CaseAt w g base c) (hS : Small c) (hbase : base ≤ w.heap.size) : Calls Tryd.prog 12 #[.pointer (some ⟨g, 0, none⟩), strV BM.sedW] w (ReadIs (9, c) g base w) := by
  have hbl := blank_any BM.sedW (by decide) w
  rw [blank_none (by decide)] at hbl
  unfold BM.sedW at hbl ⊢
  replace hbl := Lib.hid hbl
  replace hC := Lib.hid hC
  go_enter Tryd.func12, Tryd.ntmps12
  go_wp2_with (go_at_call 25; refine hbl.out.mono ?_; rintro e w2 ⟨rfl, rfl⟩)
  all_goals go_ret
  all_goals exact ⟨rfl, hC.out, Only.refl _ _⟩
set_option maxHeartbeats 4000000 in
set_option maxRecDepth 100000 in
theorem rbare_option (w : World) (g base : Nat) (c : Cs) (hC : CaseAt w g base c) (hS : Small c) (hbase : base ≤ w.heap.size) : Calls Tryd.prog 12 #[.pointer (some ⟨g, 0, none⟩), strV BM.optionW] w (ReadIs (9, c) g base w) := by
  have hbl := blank_any BM.optionW (by decide) w
  rw [blank_none (by decide)] at hbl
  unfold BM.optionW at hbl ⊢
  replace hbl := Lib.hid hbl
  replace hC := Lib.hid hC
  go_enter Tryd.func12, Tryd.ntmps12
  go_wp2_with (go_at_call 25; refine hbl.out.mono ?_; rintro e w2 ⟨rfl, rfl⟩)
  all_goals go_ret
  all_goals exact ⟨rfl, hC.out, Only.refl _ _⟩
set_option maxHeartbeats 4000000 in
set_option maxRecDepth 100000 in
theorem rbare_input (w : World) (g base : Nat) (c : Cs) (hC : CaseAt w g base c) (hS : Small c) (hbase : base ≤ w.heap.size) : Calls Tryd.prog 12 #[.pointer (some ⟨g, 0, none⟩), strV BM.inputW] w (ReadIs (9, c) g base w) := by
  have hbl := blank_any BM.inputW (by decide) w
  rw [blank_none (by decide)] at hbl
  unfold BM.inputW at hbl ⊢
  replace hbl := Lib.hid hbl
  replace hC := Lib.hid hC
  go_enter Tryd.func12, Tryd.ntmps12
  go_wp2_with (go_at_call 25; refine hbl.out.mono ?_; rintro e w2 ⟨rfl, rfl⟩)
  all_goals go_ret
  all_goals exact ⟨rfl, hC.out, Only.refl _ _⟩
set_option maxHeartbeats 4000000 in
set_option maxRecDepth 100000 in
theorem rbare_file (w : World) (g base : Nat) (c : Cs) (hC : CaseAt w g base c) (hS : Small c) (hbase : base ≤ w.heap.size) : Calls Tryd.prog 12 #[.pointer (some ⟨g, 0, none⟩), strV BM.fileW] w (ReadIs (9, c) g base w) := by
  have hbl := blank_any BM.fileW (by decide) w
  rw [blank_none (by decide)] at hbl
  unfold BM.fileW at hbl ⊢
  replace hbl := Lib.hid hbl
  replace hC := Lib.hid hC
  go_enter Tryd.func12, Tryd.ntmps12
  go_wp2_with (go_at_call 25; refine hbl.out.mono ?_; rintro e w2 ⟨rfl, rfl⟩)
  all_goals go_ret
  all_goals exact ⟨rfl, hC.out, Only.refl _ _⟩
set_option maxHeartbeats 4000000 in
set_option maxRecDepth 100000 in
theorem rbare_capacity (w : World) (g base : Nat) (c : Cs) (hC : CaseAt w g base c) (hS : Small c) (hbase : base ≤ w.heap.size) : Calls Tryd.prog 12 #[.pointer (some ⟨g, 0, none⟩), strV BM.capacityW] w (ReadIs (9, c) g base w) := by
  have hbl := blank_any BM.capacityW (by decide) w
  rw [blank_none (by decide)] at hbl
  unfold BM.capacityW at hbl ⊢
  replace hbl := Lib.hid hbl
  replace hC := Lib.hid hC
  go_enter Tryd.func12, Tryd.ntmps12
  go_wp2_with (go_at_call 25; refine hbl.out.mono ?_; rintro e w2 ⟨rfl, rfl⟩)
  all_goals go_ret
  all_goals exact ⟨rfl, hC.out, Only.refl _ _⟩
set_option maxHeartbeats 4000000 in
set_option maxRecDepth 100000 in
theorem rbare_period (w : World) (g base : Nat) (c : Cs) (hC : CaseAt w g base c) (hS : Small c) (hbase : base ≤ w.heap.size) : Calls Tryd.prog 12 #[.pointer (some ⟨g, 0, none⟩), strV BM.periodW] w (ReadIs (9, c) g base w) := by
  have hbl := blank_any BM.periodW (by decide) w
  rw [blank_none (by decide)] at hbl
  unfold BM.periodW at hbl ⊢
  replace hbl := Lib.hid hbl
  replace hC := Lib.hid hC
  go_enter Tryd.func12, Tryd.ntmps12
  go_wp2_with (go_at_call 25; refine hbl.out.mono ?_; rintro e w2 ⟨rfl, rfl⟩)
  all_goals go_ret
  all_goals exact ⟨rfl, hC.out, Only.refl _ _⟩
set_option maxHeartbeats 4000000 in
set_option maxRecDepth 100000 in
theorem rbare_fuel (w : World) (g base : Nat) (c : Cs) (hC : CaseAt w g base c) (hS : Small c) (hbase : base ≤ w.heap.size) : Calls Tryd.prog 12 #[.pointer (some ⟨g, 0, none⟩), strV BM.fuelW] w (ReadIs (9, c) g base w) := by
  have hbl := blank_any BM.fuelW (by decide) w
  rw [blank_none (by decide)] at hbl
  unfold BM.fuelW at hbl ⊢
  replace hbl := Lib.hid hbl
  replace hC := Lib.hid hC
  go_enter Tryd.func12, Tryd.ntmps12
  go_wp2_with (go_at_call 25; refine hbl.out.mono ?_; rintro e w2 ⟨rfl, rfl⟩)
  all_goals go_ret
  all_goals exact ⟨rfl, hC.out, Only.refl _ _⟩
set_option maxHeartbeats 4000000 in
set_option maxRecDepth 100000 in
theorem rbare_do (w : World) (g base : Nat) (c : Cs) (hC : CaseAt w g base c) (hS : Small c) (hbase : base ≤ w.heap.size) : Calls Tryd.prog 12 #[.pointer (some ⟨g, 0, none⟩), strV BM.doW] w (ReadIs (9, c) g base w) := by
  have hbl := blank_any BM.doW (by decide) w
  rw [blank_none (by decide)] at hbl
  unfold BM.doW at hbl ⊢
  replace hbl := Lib.hid hbl
  replace hC := Lib.hid hC
  go_enter Tryd.func12, Tryd.ntmps12
  go_wp2_with (go_at_call 25; refine hbl.out.mono ?_; rintro e w2 ⟨rfl, rfl⟩)
  all_goals go_ret
  all_goals exact ⟨rfl, hC.out, Only.refl _ _⟩
theorem rline_any (s : List UInt8) (hs : s.length ≤ 90000) (w : World) (g base : Nat) (c : Cs) (hC : CaseAt w g base c) (hS : Small c) (hbase : base ≤ w.heap.size) : Calls Tryd.prog 12 #[.pointer (some ⟨g, 0, none⟩), strV s] w (ReadIs (BM.lineS s c) g base w) := by
  by_cases hb : 0 ≤ blankI s
  · obtain ⟨wd, r, rfl, hw⟩ := blank_split0 hb
    have hl : wd.length + r.length ≤ 90000 := by simp at hs; omega
    have hr : r.length ≤ 90000 := by omega
    by_cases h_sed : wd = BM.sedW
    · subst h_sed; rw [BM.lineS_word (f := BM.sedR) rfl hw]; exact rline_sed r hr w g base c hC hS hbase
    by_cases h_option : wd = BM.optionW
    · subst h_option; rw [BM.lineS_word (f := BM.optionR) rfl hw]; exact rline_option r hr w g base c hC hS hbase
    by_cases h_input : wd = BM.inputW
    · subst h_input; rw [BM.lineS_word (f := BM.inputR) rfl hw]; exact rline_input r hr w g base c hC hS hbase
    by_cases h_file : wd = BM.fileW
    · subst h_file; rw [BM.lineS_word (f := BM.fileR) rfl hw]; exact rline_file r hr w g base c hC hS hbase
    by_cases h_capacity : wd = BM.capacityW
    · subst h_capacity; rw [BM.lineS_word (f := BM.capR) rfl hw]; exact rline_capacity r hr w g base c hC hS hbase
    by_cases h_period : wd = BM.periodW
    · subst h_period; rw [BM.lineS_word (f := BM.periodR) rfl hw]; exact rline_period r hr w g base c hC hS hbase
    by_cases h_fuel : wd = BM.fuelW
    · subst h_fuel; rw [BM.lineS_word (f := BM.fuelR) rfl hw]; exact rline_fuel r hr w g base c hC hS hbase
    by_cases h_do : wd = BM.doW
    · subst h_do; rw [BM.lineS_word (f := BM.doR) rfl hw]; exact rline_do r hr w g base c hC hS hbase
    have hR : BM.lineS (wd ++ 32 :: r) c = (30, c) := by unfold BM.lineS; rw [BM.cut_word hw]; simp only; rw [look_none h_sed h_option h_input h_file h_capacity h_period h_fuel h_do]
    rw [hR]
    exact rline_other wd r hw h_sed h_option h_input h_file h_capacity h_period h_fuel h_do hl w g base c hC hS hbase
  · have hw : 32 ∉ s := fun h => hb (blank_in.2 h)
    by_cases h_sed : s = BM.sedW
    · subst h_sed; exact rbare_sed w g base c hC hS hbase
    by_cases h_option : s = BM.optionW
    · subst h_option; exact rbare_option w g base c hC hS hbase
    by_cases h_input : s = BM.inputW
    · subst h_input; exact rbare_input w g base c hC hS hbase
    by_cases h_file : s = BM.fileW
    · subst h_file; exact rbare_file w g base c hC hS hbase
    by_cases h_capacity : s = BM.capacityW
    · subst h_capacity; exact rbare_capacity w g base c hC hS hbase
    by_cases h_period : s = BM.periodW
    · subst h_period; exact rbare_period w g base c hC hS hbase
    by_cases h_fuel : s = BM.fuelW
    · subst h_fuel; exact rbare_fuel w g base c hC hS hbase
    by_cases h_do : s = BM.doW
    · subst h_do; exact rbare_do w g base c hC hS hbase
    have hR : BM.lineS s c = (30, c) := by unfold BM.lineS; rw [cut_none hw]; simp only; rw [look_none h_sed h_option h_input h_file h_capacity h_period h_fuel h_do]
    rw [hR]
    exact rline_bare s hw h_sed h_option h_input h_file h_capacity h_period h_fuel h_do hs w g base c hC hS hbase
end Go.Proofs.YtaginadnaajleaaDoor
