/-
  SnapsNear: the walk; of chapter 25.
  Conditions: as each theorem states them.
-/
import Derived.Test.YtfidmpkblmebeaaSnap7
namespace Go.Proofs.Ytfidmpkblmebeaa
open Go.RowKit
set_option linter.unusedVariables false
set_option linter.unusedSimpArgs false
attribute [local go_sem ↓] load_st store_st
set_option maxHeartbeats 4000000 in
set_option maxRecDepth 100000 in
theorem snapsNear_list (pd st at_ : Nat) (h1 : pd < 256) (h2 : st < 256) (h3 : at_ < 256) (w : World) : Calls Try.prog 4 #[.int .u8 (pd : Int), .int .u8 (st : Int), .int .u8 (at_ : Int)] w fun e w' => e = .returned (.bool true) ∧ Below w.heap.size w w' := by
  obtain ⟨k, hk⟩ : ∃ k, 1 + pd % 20 = k := ⟨_, rfl⟩
  obtain ⟨n, hn⟩ : ∃ n, 1 + st % 200 = n := ⟨_, rfl⟩
  have hkb : 1 ≤ k ∧ k ≤ 20 := by omega
  have hnb : 1 ≤ n ∧ n ≤ 200 := by omega
  have hkI : IntKind.i64.wrap (1 + (pd : Int) % 20) = (k : Int) := by rw [show 1 + (pd : Int) % 20 = (k : Int) by omega]; exact IntWalk.i64_in _ (by omega)
  have hnI : IntKind.i64.wrap (1 + (st : Int) % 200) = (n : Int) := by rw [show 1 + (st : Int) % 200 = (n : Int) by omega]; exact IntWalk.i64_in _ (by omega)
  have hnew := Lib.hid (new_any w (k : Int) (by omega))
  replace hk := Lib.hid hk
  replace hn := Lib.hid hn
  go_enter Try.func4, Try.ntmps4
  go_wp2_with (go_at_call 5; (with_reducible refine hnew.out.mono ?_); rintro e W1 ⟨p, mb, rfl, hS1, hm1, hp1, hp2, hb1⟩; replace hS1 := Lib.hid hS1; replace hb1 := Lib.hid hb1)
  obtain ⟨f, hf⟩ : ∃ f : Nat → StC, f = fun i : Nat => bare (i : Int) := ⟨_, rfl⟩
  have hfb : ∀ i, f i = bare (i : Int) := fun i => by rw [hf]
  replace hf := Lib.hid hf
  go_loopg [11] n (fun gh v wr => ∃ i c : Nat, gh = n - i ∧ v = .int .i64 (i : Int) ∧ i ≤ n ∧ c ≤ i ∧ Hid (SnAt wr p mb c (k : Int) (SM.mults k i f)) ∧ Hid (Only (fun j => j = mb) W1 wr))
  case atStart => exact ⟨0, 0, rfl, rfl, by omega, by omega, hS1, Lib.hid (Only.refl _ _)⟩
  case round =>
    obtain ⟨i, c, rfl, rfl, hi, hc, hS, hO⟩ := hrel
    by_cases hlt : i < n
    · have q0 : decide ((i : Int) < (n : Int)) = true := by simp; omega
      have hof := Lib.hid (offer_mult hS.out hc (by omega) (by omega) (hfb i))
      obtain ⟨B, hB⟩ : ∃ B, (i % k == 0) = B := ⟨_, rfl⟩
      rw [hB] at hof
      replace hB := Lib.hid hB
      go_wp2_with (go_at_call 9; (with_reducible refine hof.out.mono ?_); rintro e w3 ⟨rfl, n', hn', hS3, hO3⟩; replace hS3 := Lib.hid hS3; replace hO3 := Lib.hid hO3)
      go_roundg (n - (i + 1))
      case measure => omega
      case rel => exact ⟨i + 1, n', rfl, by go_num, by omega, hn', hS3, Lib.hid (hO.out.trans hO3.out)⟩
    · obtain rfl : i = n := by omega
      obtain ⟨m, hm⟩ : ∃ m, at_ % i = m := ⟨_, rfl⟩
      have hmi : m < i := by rw [← hm]; exact Nat.mod_lt _ (by omega)
      have hmI : (at_ : Int) % (i : Int) = (m : Int) := by rw [← hm]; simp
      have hzi : ((i : Int) == 0) = false := by simp; omega
      have hzk : ((k : Int) == 0) = false := by simp; omega
      obtain ⟨a, eA, ha1, ha2, ha3, ha4, hB1, hB2, hg, hA2⟩ := SM.near (k := k) (n := i) (m := m) (by omega) hmi f
      have hLb := mults_bare (k := k) (n := i) (f := f) (fun j => ⟨(j : Int), hfb j⟩)
      have hLl : (SM.mults k i f).length ≤ 100000 := Nat.le_trans (SM.mults_len k i f) (by omega)
      have hbr : Below w.heap.size w wr := hb1.out.trans (hO.out.below hb1.out.size (fun j hj => by rw [hj]; exact hm1))
      have hA := ahead_b hS.out hLl (m : Int) hLb
      rw [eA, hfb a] at hA
      have hBh := Lib.hid (fun w' (hb : Below wr.heap.size wr w') => behind_b (hS.out.below hb) hLl (m : Int) hLb)
      have hst := Lib.hid (fun w' (ph : Int) => st_new w' (bare ph))
      replace hA := Lib.hid hA
      replace hm := Lib.hid hm
      replace hbr := Lib.hid hbr
      replace hg := Lib.hid hg
      replace hA2 := Lib.hid hA2
      replace hB1 := Lib.hid hB1
      replace hB2 := Lib.hid hB2
      replace hLb := Lib.hid hLb
      clear eA
      go_upto_region 12 with (go_at_call 15; (with_reducible refine hA.out.mono ?_); rintro e w3 ⟨rn, s', rb, rfl, hb3, rfl, rfl, rfl⟩; obtain ⟨w4, S4, hB4, hb4⟩ := hst.out w3 (a : Int); have hb34 := bl_trans hb3 hb4; generalize hCa : (bare (a : Int)).cells.toArray = Ca at *)
      obtain ⟨lt, hlt2⟩ : ∃ l, (i - 1) / k * k = l := ⟨_, rfl⟩
      rw [hlt2] at hB1 hB2 hg hA2
      obtain ⟨BB, bN, sb, hBx, hBt, hBf, hBB⟩ : ∃ (BB : Bool) (bN : Nat) (sb : StC), Hid (∀ w', Below wr.heap.size wr w' → Calls Try.prog 16 #[.pointer (some ⟨p, 0, none⟩), .int .i64 (m : Int)] w' fun e w'' => e = .returned (.tuple #[.int .i64 (bN : Int), .agg sb.cells.toArray, .bool BB]) ∧ Below w'.heap.size w' w'') ∧ Hid (BB = true → m ≤ bN ∧ bN < m + k ∧ sb = bare (bN : Int)) ∧ bN ≤ 1000 ∧ Hid (decide (m ≤ lt) = BB) := by
        by_cases hle : m ≤ lt
        · obtain ⟨b, eb, k1, k2, k3⟩ := hB1.out hle
          refine ⟨true, b, bare (b : Int), Lib.hid (fun w' hw' => ?_), Lib.hid (fun _ => ⟨k1, k2, rfl⟩), by omega, Lib.hid (by simpa using hle)⟩
          have := hBh.out w' hw'
          rw [eb, hfb b] at this
          refine this.mono ?_
          rintro e w'' ⟨rn, s', rb, rfl, hb, rfl, rfl, rfl⟩
          exact ⟨rfl, hb⟩
        · have eb := hB2.out hle
          refine ⟨false, 0, zeroC, Lib.hid (fun w' hw' => ?_), Lib.hid (fun h => by cases h), by omega, Lib.hid (by simpa using hle)⟩
          have := hBh.out w' hw'
          rw [eb] at this
          refine this.mono ?_
          rintro e w'' ⟨rn, s', rb, rfl, hb, rfl, rfl, rfl⟩
          exact ⟨rfl, hb⟩
      clear hB1 hB2 hBh
      have hlast : wrap64 (((i : Int) - 1) / (k : Int) * (k : Int)) = (lt : Int) := by
        have e : ((i : Int) - 1) / (k : Int) * (k : Int) = (lt : Int) := by
          rw [← hlt2, show ((i : Int) - 1) = ((i - 1 : Nat) : Int) by omega]
          push_cast
          rfl
        rw [e]
        have hl2 : lt ≤ i := by rw [← hlt2]; exact Nat.le_trans (Nat.div_mul_le_self _ _) (by omega)
        exact IntWalk.wrap64_in _ (by omega)
      have hltb : lt ≤ 1000 := by rw [← hlt2]; exact Nat.le_trans (Nat.div_mul_le_self _ _) (by omega)
      replace hlt2 := Lib.hid hlt2
      have hstb := Lib.hid (fun w' => st_new w' sb)
      have hB4' := Lib.hid hB4
      clear hB4
      go_upto_region 13 with (go_at_call 16; (with_reducible refine (hBx.out _ hb34).mono ?_); rintro e w5 ⟨rfl, hb5⟩; obtain ⟨w6, S6, hB6, hb6⟩ := hstb.out w5; have hb36 := bl_trans hb34 (bl_trans hb5 hb6); have hb46 := bl_trans hb5 hb6; replace hB6 := Lib.hid hB6; generalize hCb : sb.cells.toArray = Cb at *)
      go_upto_region 14 with fail
      have hms := hm1
      have hw3m : mb < w3.heap.size := by have := hO.out.size; have := hb3.size; have := hp1; omega
      have r1 : decide (m < a) = false := by simp; omega
      have r2 : IntKind.i64.wrap ((m : Int) - (a : Int)) = (m : Int) - (a : Int) := IntWalk.i64_in _ (by omega)
      have r3 : decide ((k : Int) ≤ (m : Int) - (a : Int)) = false := by simp; omega
      have r4 : decide (m ≤ lt) = BB := hBB.out
      have cA : w6.cell? ⟨w3.heap.size, 15, none⟩ = some (.int .i64 (a : Int)) := (hB4'.out.below hb46).cell 15
      have lA : w3.heap.size < w6.heap.size := (hB4'.out.below hb46).lt
      have lB := hB6.out.lt
      have r5 : IntKind.i64.wrap ((a : Int) + 1) = (a : Int) + 1 := IntWalk.i64_in _ (by omega)
      have hkp := Lib.hid (keep_any (hS.out.below hb36) hLl ((a : Int) + 1) (lt : Int))
      have hkA := Lib.hid (fun X (hX : Only (fun j => j = mb) w6 X) => (by
        have := stLoad_is (bare (a : Int)) ((hB4'.out.below hb46).only hX (by show ¬ w3.heap.size = mb; omega))
        rw [hCa] at this; exact this : (stLoad ⟨w3.heap.size, 0, none⟩).run Try.prog X = .ok (.agg Ca) X))
      have hfin := Lib.hid (fun X (hX : Only (fun j => j = mb) w6 X) => (by
        have h6 : Below w.heap.size w w6 := bl_trans hbr.out hb36
        exact h6.trans (hX.below h6.size (fun j hj => by rw [hj]; exact hm1)) : Below w.heap.size w X))
      have hofn := Lib.hid (fun X => (by have := offer_nil X 0 (bare (a : Int)); rw [hCa] at this; exact this : Calls Try.prog 9 #[.pointer none, .int .i64 0, .agg Ca] X fun e w' => e = .returned (.bool false) ∧ Below X.heap.size X w'))
      have hah2 := Lib.hid (fun X c' (hX : SnAt X p mb c' (k : Int) (SM.keep (SM.mults k i f) ((a : Int) + 1) (lt : Int))) => (by
        have := ahead_b hX (Nat.le_trans (List.length_filter_le _ _) hLl) (m : Int) (fun x hx => hLb.out x (List.mem_filter.1 hx).1)
        rw [hA2.out] at this
        refine this.mono ?_
        rintro e w'' ⟨rn, s', rb, rfl, hb, rfl, rfl, rfl⟩
        exact ⟨rfl, hb⟩ : Calls Try.prog 15 #[.pointer (some ⟨p, 0, none⟩), .int .i64 (m : Int)] X fun e w'' => e = .returned (.tuple #[.int .i64 0, .agg zeroC.cells.toArray, .bool false]) ∧ Below X.heap.size X w''))
      have hstz := Lib.hid (fun w' => st_new w' zeroC)
      have hahn := Lib.hid (fun X => ahead_nil X 0)
      have hbhn := Lib.hid (fun X => behind_nil X 0)
      unfold NoLook at hahn hbhn
      obtain ⟨Cz, hCz⟩ : ∃ C, zeroC.cells.toArray = C := ⟨_, rfl⟩
      rw [hCz] at hah2 hstz hahn hbhn
      obtain ⟨G, hG⟩ : ∃ G : Nat, (SM.mults k i f).length - (SM.keep (SM.mults k i f) ((a : Int) + 1) (lt : Int)).length = G := ⟨_, rfl⟩
      rw [hG] at hkp hg
      have hGa : ((a : Int) / (k : Int)) + 1 = (G : Int) := by rw [hg.out]; push_cast; rfl
      have hgb : G ≤ 1000 := by rw [hg.out]; have := Nat.div_le_self a k; omega
      have r6 : IntKind.i64.wrap ((a : Int) / (k : Int) + 1) = (G : Int) := by rw [hGa]; exact IntWalk.i64_in _ (by omega)
      have hak : 0 ≤ (a : Int) / (k : Int) ∧ (a : Int) / (k : Int) ≤ 1000 := by have hG1 : 1 ≤ G := (by rw [hg.out]; exact Nat.le_add_left 1 _); generalize (a : Int) / (k : Int) = q at *; omega
      have r6' : wrap64 (wrap64 ((a : Int) / (k : Int)) + 1) = (G : Int) := by rw [IntWalk.wrap64_in ((a : Int) / (k : Int)) (by generalize (a : Int) / (k : Int) = q at *; omega), hGa]; exact IntWalk.wrap64_in _ (by omega)
      clear hak
      have haw := Lib.hid (fun X => awake25 X)
      replace hG := Lib.hid hG
      replace hGa := Lib.hid hGa
      replace hCz := Lib.hid hCz
      replace hCa := Lib.hid hCa
      replace hCb := Lib.hid hCb
      cases BB with
      | true =>
        obtain ⟨u1, u2, u3⟩ := hBt.out rfl
        have r7 : decide (bN < m) = false := by simp; omega
        have r8 : IntKind.i64.wrap ((bN : Int) - (m : Int)) = (bN : Int) - (m : Int) := IntWalk.i64_in _ (by omega)
        have r9 : decide ((k : Int) ≤ (bN : Int) - (m : Int)) = false := by simp; omega
        have cB : w6.cell? ⟨w5.heap.size, 15, none⟩ = some (.int .i64 (bN : Int)) := by
          have := hB6.out.cell 15
          rw [u3] at this
          exact this
        clear u3
        go_upto_region 18 with (first
          | (go_at_call 11; (with_reducible refine hkp.out.mono ?_); rintro e w7 ⟨rfl, hS7, hO7⟩; have hS7' := Lib.hid hS7; clear hS7)
          | (go_at_call 15; (with_reducible refine (hah2.out _ _ hS7'.out).mono ?_); rintro e w8 ⟨rfl, hb8⟩; obtain ⟨w9, S9, _, hb9⟩ := hstz.out w8; have hO9 := hO7.trans (Only.of_below (bl_trans hb8 hb9))))
        clear hah2 hkp
        go_upto_region 21 with (first
          | (go_at_call 15; (with_reducible refine (hahn.out _).mono ?_); rintro e w10 ⟨rfl, hb10⟩; obtain ⟨w11, S11, _, hb11⟩ := hstz.out w10; have hO11 := hO9.trans (Only.of_below (bl_trans hb10 hb11)))
          | (go_at_call 16; (with_reducible refine (hbhn.out _).mono ?_); rintro e w12 ⟨rfl, hb12⟩; obtain ⟨w13, S13, _, hb13⟩ := hstz.out w12; have hO13 := hO11.trans (Only.of_below (bl_trans hb12 hb13))))
        have L13 := hkA.out w13 hO13
        go_wp2_with (first
          | (go_at_call 9; (with_reducible refine (hofn.out _).mono ?_); rintro e w14 ⟨rfl, hb14⟩)
          | (go_at_call 11; (with_reducible refine (keep_nil _ 0 0).mono ?_); rintro e w0 ⟨rfl, rfl⟩)
          | (go_at_call 13; (with_reducible refine (numbers_nil _).mono ?_); rintro e w0 ⟨rfl, rfl⟩)
          | (go_at_call 6; (with_reducible refine (haw.out _).mono ?_); rintro e w15 ⟨rfl, hb15⟩))
        go_ret
        exact ⟨rfl, hfin.out _ (hO13.trans (Only.of_below (bl_trans hb14 hb15)))⟩
      | false =>
        go_upto_region 18 with (first
          | (go_at_call 11; (with_reducible refine hkp.out.mono ?_); rintro e w7 ⟨rfl, hS7, hO7⟩; have hS7' := Lib.hid hS7; clear hS7)
          | (go_at_call 15; (with_reducible refine (hah2.out _ _ hS7'.out).mono ?_); rintro e w8 ⟨rfl, hb8⟩; obtain ⟨w9, S9, _, hb9⟩ := hstz.out w8; have hO9 := hO7.trans (Only.of_below (bl_trans hb8 hb9))))
        clear hah2 hkp
        go_upto_region 21 with (first
          | (go_at_call 15; (with_reducible refine (hahn.out _).mono ?_); rintro e w10 ⟨rfl, hb10⟩; obtain ⟨w11, S11, _, hb11⟩ := hstz.out w10; have hO11 := hO9.trans (Only.of_below (bl_trans hb10 hb11)))
          | (go_at_call 16; (with_reducible refine (hbhn.out _).mono ?_); rintro e w12 ⟨rfl, hb12⟩; obtain ⟨w13, S13, _, hb13⟩ := hstz.out w12; have hO13 := hO11.trans (Only.of_below (bl_trans hb12 hb13))))
        have L13 := hkA.out w13 hO13
        go_wp2_with (first
          | (go_at_call 9; (with_reducible refine (hofn.out _).mono ?_); rintro e w14 ⟨rfl, hb14⟩)
          | (go_at_call 11; (with_reducible refine (keep_nil _ 0 0).mono ?_); rintro e w0 ⟨rfl, rfl⟩)
          | (go_at_call 13; (with_reducible refine (numbers_nil _).mono ?_); rintro e w0 ⟨rfl, rfl⟩)
          | (go_at_call 6; (with_reducible refine (haw.out _).mono ?_); rintro e w15 ⟨rfl, hb15⟩))
        go_ret
        exact ⟨rfl, hfin.out _ (hO13.trans (Only.of_below (bl_trans hb14 hb15)))⟩
end Go.Proofs.Ytfidmpkblmebeaa
