/-
  The walk of the law RingPlays, of chapter 24: through any calls a ring is what the document says.
  Conditions: as each theorem states them.
-/
import Derived.Test.YtfbimghnimepjaaPlays3
namespace Go.Proofs.Ytfbimghnimepjaa
open Go.RowKit
set_option linter.unusedVariables false
set_option linter.unusedSimpArgs false
theorem new_int_out (c : Int) (hc : c < 1 ∨ 1000 < c) (w : World) : Calls Try.prog 27 #[.int .i64 c] w fun e w' => e = .returned (.tuple #[.pointer none, .int .i64 3]) ∧ w' = w := by
  rcases hc with h | h
  all_goals go_enter Try.func27, Try.ntmps27
  all_goals go_wp2_with fail
  all_goals go_ret2
  all_goals exact ⟨rfl, rfl⟩
set_option maxHeartbeats 1000000 in
theorem plays_out (c : Int) (hc : c < 1 ∨ 1000 < c) (la : Option Addr) (ll lc : Nat) (w : World) :
    Calls Try.prog 9 #[.int .i64 c, .slice la ll lc] w fun e w' => e = .returned (.bool true) ∧ Below w.heap.size w w' := by
  have hn := Lib.hid (new_int_out c hc w)
  rcases hc with h | h
  all_goals go_enter Try.func9, Try.ntmps9
  all_goals go_wp2_with (first | (go_at_call 27; refine hn.out.mono ?_; rintro e w2 ⟨rfl, rfl⟩) | (go_at_call 20; refine (awake24_any _).mono ?_; rintro e w3 ⟨rfl, hb⟩))
  all_goals go_ret
  all_goals exact ⟨rfl, hb⟩
set_option maxHeartbeats 1000000 in
theorem plays_great (c : Nat) (hc : 1 ≤ c ∧ c ≤ 1000) (la : Option Addr) (ll lc : Nat) (hl : 40 < ll) (w : World) :
    Calls Try.prog 9 #[.int .i64 (c : Int), .slice la ll lc] w fun e w' => e = .returned (.bool true) ∧ Below w.heap.size w w' := by
  have hn := Lib.hid (new_int c w hc.1 hc.2)
  have h1 : (1 : Int) ≤ c := by omega
  have h2 : (c : Int) ≤ 1000 := by omega
  go_enter Try.func9, Try.ntmps9
  go_wp2_with (first | (go_at_call 27; refine hn.out.mono ?_; rintro e w2 ⟨p, g, rfl, hp, hg, hR, hb2⟩) | (go_at_call 20; refine (awake24_any _).mono ?_; rintro e w3 ⟨rfl, hb⟩))
  all_goals go_ret
  all_goals exact ⟨rfl, bl_trans hb2 hb⟩
/-- the rings after some calls -/
def Inv (W : World) (p g px cap high : Nat) (wr : World) : Prop := ∃ (low : Nat) (xs : List Int), Match wr p g px cap low xs ∧ xs.length ≤ cap ∧ low + xs.length ≤ high ∧ Below W.heap.size W wr
theorem Inv.below {W : World} {p g px cap high : Nat} {wr w' : World} (h : Inv W p g px cap high wr) (hb : Below wr.heap.size wr w') : Inv W p g px cap high w' := by
  obtain ⟨low, xs, h1, h2, h3, h4⟩ := h
  exact ⟨low, xs, h1.below hb, h2, h3, bl_trans h4 hb⟩
theorem Inv.up {W : World} {p g px cap high high' : Nat} {wr : World} (h : Inv W p g px cap high wr) (hh : high ≤ high') : Inv W p g px cap high' wr := by
  obtain ⟨low, xs, h1, h2, h3, h4⟩ := h
  exact ⟨low, xs, h1, h2, by omega, h4⟩
/-- a cell of a box that no ring has -/
def Keeps (p g px bo : Nat) (w w' : World) : Prop := ∀ o, bo < w.heap.size → ¬ (bo = p ∨ bo = g ∨ bo = px) → w'.cell? ⟨bo, o, none⟩ = w.cell? ⟨bo, o, none⟩
theorem inv_push {W : World} {p g px cap high : Nat} {wr : World} (x : Int) (hc : 1 ≤ cap ∧ cap ≤ 1000) (hs : high ≤ 1000000) (hW : W.heap.size ≤ p ∧ W.heap.size ≤ g ∧ W.heap.size ≤ px) (h : Inv W p g px cap high wr) :
    ∃ v : Int, Calls Try.prog 28 #[.pointer (some ⟨p, 0, none⟩), .int .i64 x] wr fun e w1 => e = .returned (.int .i64 v) ∧ Only (fun k => k = p ∨ k = g) wr w1 ∧
      Calls Try.prog 29 #[.pointer (some ⟨px, 0, none⟩), .int .i64 x] w1 fun e w2 => e = .returned (.int .i64 v) ∧ Only (fun k => k = p ∨ k = g ∨ k = px) wr w2 ∧ Inv W p g px cap (high + 1) w2 := by
  obtain ⟨low, xs, h1, h2, h3, h4⟩ := h
  refine ⟨((low + xs.length : Nat) : Int), (push_both x h1 hc h2 (by omega)).mono ?_⟩
  rintro e w1 ⟨rfl, ho1, hc2⟩
  refine ⟨rfl, ho1, hc2.mono ?_⟩
  rintro e w2 ⟨rfl, ho2, hM, hl⟩
  have hpl := push_list cap low xs x
  exact ⟨rfl, ho2, _, _, hM, hl, by omega, bl_only h4 ho2 (fun i hi => by omega)⟩
theorem inv_cut {W : World} {p g px cap high : Nat} {wr : World} (n : Int) (hc : 1 ≤ cap ∧ cap ≤ 1000) (hs : high ≤ 1000000) (hW : W.heap.size ≤ p ∧ W.heap.size ≤ g ∧ W.heap.size ≤ px) (h : Inv W p g px cap high wr) :
    ∃ v : Int, Calls Try.prog 30 #[.pointer (some ⟨p, 0, none⟩), .int .i64 n] wr fun e w1 => e = .returned (.int .i64 v) ∧ Only (fun k => k = p ∨ k = g) wr w1 ∧
      Calls Try.prog 31 #[.pointer (some ⟨px, 0, none⟩), .int .i64 n] w1 fun e w2 => e = .returned (.int .i64 v) ∧ Only (fun k => k = p ∨ k = g ∨ k = px) wr w2 ∧ Inv W p g px cap high w2 := by
  obtain ⟨low, xs, h1, h2, h3, h4⟩ := h
  obtain ⟨k, hk, hcut⟩ := cut_both n h1 ⟨h2, hc.2⟩ (by omega)
  refine ⟨((xs.length - k : Nat) : Int), hcut.mono ?_⟩
  rintro e w1 ⟨rfl, ho1, hc2⟩
  refine ⟨rfl, ho1, hc2.mono ?_⟩
  rintro e w2 ⟨rfl, ho2, hM⟩
  have hl : (xs.take k).length ≤ xs.length := by rw [List.length_take]; omega
  exact ⟨rfl, ho2, _, _, hM, by omega, by omega, bl_only h4 ho2 (fun i hi => by omega)⟩
theorem inv_same {W : World} {p g px cap high : Nat} {wr : World} (n : Int) (hn : -9223372036854775808 ≤ n ∧ n ≤ 9223372036854775807) (h : Inv W p g px cap high wr) :
    Calls Try.prog 32 #[.pointer (some ⟨p, 0, none⟩), .pointer (some ⟨px, 0, none⟩), .int .i64 n] wr fun e w' => e = .returned (.bool true) ∧ Inv W p g px cap high w' := by
  obtain ⟨low, xs, h1, h2, h3, h4⟩ := id h
  refine (same_any n hn wr p g px cap low xs h1).mono ?_
  rintro e w' ⟨rfl, hb⟩
  exact ⟨rfl, h.below hb⟩
set_option maxHeartbeats 8000000 in
set_option maxRecDepth 100000 in
theorem plays_main (cap : Nat) (hc : 1 ≤ cap ∧ cap ≤ 1000) (la : Option Addr) (lc m : Nat) (hl : m ≤ 40) (K N M : Nat → Int) (hN : ∀ i, i < m → (-9223372036854775808 ≤ N i ∧ N i ≤ 9223372036854775807)) (W : World)
    (hrow : 0 < m → ∃ b o, la = some ⟨b, o, none⟩ ∧ b < W.heap.size ∧ ∀ i, i < m → W.cell? ⟨b, o + i * 3, none⟩ = some (.int .i64 (K i)) ∧ W.cell? ⟨b, o + i * 3 + 1, none⟩ = some (.int .i64 (N i)) ∧ W.cell? ⟨b, o + i * 3 + 2, none⟩ = some (.int .i64 (M i))) :
    Calls Try.prog 9 #[.int .i64 (cap : Int), .slice la m lc] W fun e w' => e = .returned (.bool true) ∧ Below W.heap.size W w' := by
  have hn := Lib.hid (new_int cap W hc.1 hc.2)
  have h1 : (1 : Int) ≤ cap := by omega
  have h2 : (cap : Int) ≤ 1000 := by omega
  have hl2 : (m : Int) ≤ 40 := by omega
  replace hrow := Lib.hid hrow
  replace hN := Lib.hid hN
  go_enter Try.func9, Try.ntmps9
  go_wp2_with fail
  refine hn.out.mono ?_
  rintro e w2 ⟨p, g, rfl, hp, hg, hR, hb2⟩
  have hW : W.heap.size ≤ p ∧ W.heap.size ≤ g ∧ W.heap.size ≤ w2.heap.size := ⟨hp, hg, hb2.size⟩
  have hpx : p < w2.heap.size ∧ g < w2.heap.size := ⟨hR.blk.lt, hR.row.lt⟩
  have hinv0 : Inv W p g w2.heap.size cap 0 (w2.alloc (.cells #[.int .i64 (cap : Int), .int .i64 0, .slice none 0 0] 63)) := by
    refine ⟨0, [], ⟨⟨_, hR.below (bl_alloc (Below.refl _ _) _), by simp, fun j hj => by simp at hj⟩, RefAt.nil ?_, ⟨by omega, by omega⟩, by omega, by simp⟩, by simp, by simp, bl_alloc hb2 _⟩
    exact Blk.new w2 63 [.int .i64 (cap : Int), .int .i64 0, .slice none 0 0]
  replace hinv0 := Lib.hid hinv0
  generalize hX : w2.heap.size = px at *
  clear hn
  go_wp2_with fail
  go_loopw [8] (fun i wr => ∃ k : Nat, k ≤ m ∧ i = .int .i64 (k : Int) ∧ Inv W p g px cap (30 * k) wr) (fun i _ => m - (intOf i).toNat)
  case atStart => exact ⟨0, by omega, rfl, hinv0.out⟩
  case round =>
    obtain ⟨k, hk, rfl, hinv⟩ := hrel
    by_cases hlt : k < m
    · obtain ⟨b, o, rfl, hb, hcs⟩ := hrow.out (by omega)
      have hbW : Below W.heap.size W wr := by obtain ⟨_, _, _, _, _, h⟩ := hinv; exact h
      have hNk := hN.out k hlt
      obtain ⟨d0, d1, d2⟩ := hcs k hlt
      replace d0 := (hbW.cell (p := ⟨b, o + k * 3, none⟩) hb).trans d0
      replace d1 := (hbW.cell (p := ⟨b, o + k * 3 + 1, none⟩) hb).trans d1
      replace d2 := (hbW.cell (p := ⟨b, o + k * 3 + 2, none⟩) hb).trans d2
      have hbo : p < wr.heap.size ∧ g < wr.heap.size ∧ px < wr.heap.size := by
        obtain ⟨low, xs, hM, _⟩ := hinv
        obtain ⟨room, hr, _⟩ := hM.ring
        obtain ⟨a, c, hbk, _⟩ := hM.ref
        exact ⟨hr.blk.lt, hr.row.lt, hbk.lt⟩
      clear hcs hb
      generalize K k = kk at *
      generalize N k = nn at *
      generalize M k = mm at *
      replace hinv := Lib.hid hinv
      have hbk0 := Blk.new wr 65 [.int .i64 kk, .int .i64 nn, .int .i64 mm]
      obtain ⟨w3, hw3⟩ : ∃ w3, wr.alloc (.cells #[.int .i64 kk, .int .i64 nn, .int .i64 mm] 65) = w3 := ⟨_, rfl⟩
      have hbk : Blk w3 wr.heap.size 65 [.int .i64 kk, .int .i64 nn, .int .i64 mm] := by rw [← hw3]; exact hbk0
      have inv3 : Inv W p g px cap (30 * k) w3 := by rw [← hw3]; exact hinv.out.below (bl_alloc (Below.refl _ _) _)
      have e0 := hbk.cell 0
      have e1 := hbk.cell 1
      have e2 := hbk.cell 2
      simp at e0 e1 e2
      have hbl := hbk.lt
      have hbn1 : ¬ (wr.heap.size = p ∨ wr.heap.size = g) := by omega
      have hbn2 : ¬ (wr.heap.size = p ∨ wr.heap.size = g ∨ wr.heap.size = px) := by omega
      have hbo1 : wr.heap.size < w3.drew.heap.size := hbl
      have s1 : w3.drew.cell? ⟨wr.heap.size, 1, none⟩ = some (.int .i64 nn) := e1
      have inv4 : Inv W p g px cap (30 * k) w3.drew := inv3.below (bl_drew (Below.refl _ _))
      clear hbk0 hbk hrow hN
      generalize hbo : wr.heap.size = bo at *
      replace hbn1 := Lib.hid hbn1
      replace hbn2 := Lib.hid hbn2
      by_cases k0 : kk = 0
      · obtain ⟨v, hcall⟩ := inv_push nn hc (by omega) hW inv4
        replace hcall := Lib.hid hcall
        subst k0
        go_wp2_with fail
        go_region_held3 (fun w' => w'.cell? ⟨bo, 1, none⟩ = some (.int .i64 nn)) (first | exact s1 | exact hs)
          (first
          | (go_at_call 28; refine hcall.out.mono ?_; rintro e w5 ⟨rfl, ho5, hc5⟩; have hs := (only_cell ho5 (o := 1) hbo1 hbn1.out).trans s1)
          | (go_at_call 29; refine hc5.mono ?_; rintro e w6 ⟨rfl, ho6, inv6⟩; have hs := (only_cell ho6 (o := 1) hbo1 hbn2.out).trans s1))
        all_goals go_wp2_with (go_at_call 32; refine (inv_same nn hNk inv6).mono ?_; rintro e w7 ⟨rfl, inv7⟩)
        all_goals go_roundw
        case measure => simp [intOf]; omega
        case rel => exact ⟨k + 1, by omega, by go_num, inv7.up (by omega)⟩
      by_cases k1 : kk = 1
      · obtain ⟨v, hcall⟩ := inv_cut nn hc (by omega) hW inv4
        replace hcall := Lib.hid hcall
        subst k1
        go_wp2_with fail
        go_region_held3 (fun w' => w'.cell? ⟨bo, 1, none⟩ = some (.int .i64 nn)) (first | exact s1 | exact hs)
          (first
          | (go_at_call 30; refine hcall.out.mono ?_; rintro e w5 ⟨rfl, ho5, hc5⟩; have hs := (only_cell ho5 (o := 1) hbo1 hbn1.out).trans s1)
          | (go_at_call 31; refine hc5.mono ?_; rintro e w6 ⟨rfl, ho6, inv6⟩; have hs := (only_cell ho6 (o := 1) hbo1 hbn2.out).trans s1))
        all_goals go_wp2_with (go_at_call 32; refine (inv_same nn hNk inv6).mono ?_; rintro e w7 ⟨rfl, inv7⟩)
        all_goals go_roundw
        case measure => simp [intOf]; omega
        case rel => exact ⟨k + 1, by omega, by go_num, inv7.up (by omega)⟩
      by_cases k2 : kk = 2
      · subst k2
        go_wp2_with fail
        go_loopw [11, 10] (fun i ok wq => ∃ j : Nat, i = .int .i64 (j : Int) ∧ ok = .bool true ∧ j ≤ 30 ∧ Inv W p g px cap (30 * k + j) wq ∧ bo < wq.heap.size ∧ wq.cell? ⟨bo, 1, none⟩ = some (.int .i64 nn) ∧ wq.cell? ⟨bo, 2, none⟩ = some (.int .i64 mm)) (fun i _ _ => 30 - (intOf i).toNat)
        case atStart => exact ⟨0, rfl, rfl, by omega, inv3, hbl, e1, e2⟩
        case round =>
          obtain ⟨j, rfl, rfl, hj, invj, hbj, j1, j2⟩ := hrel
          by_cases hgo : (j : Int) < mm ∧ j < 30
          · obtain ⟨hg1, hg2⟩ := hgo
            have invd : Inv W p g px cap (30 * k + j) wr.drew := invj.below (bl_drew (Below.refl _ _))
            obtain ⟨v, hcall⟩ := inv_push nn hc (by omega) hW invd
            replace hcall := Lib.hid hcall
            have t1 : wr.drew.cell? ⟨bo, 1, none⟩ = some (.int .i64 nn) := j1
            have hbj1 : bo < wr.drew.heap.size := hbj
            go_wp2_with fail
            go_region_held3 (fun w' => w'.cell? ⟨bo, 1, none⟩ = some (.int .i64 nn)) (first | exact t1 | exact hs)
              (first
              | (go_at_call 28; refine hcall.out.mono ?_; rintro e w5 ⟨rfl, ho5, hc5⟩; have hs := (only_cell ho5 (o := 1) hbj1 hbn1.out).trans t1)
              | (go_at_call 29; refine hc5.mono ?_; rintro e w6 ⟨rfl, ho6, inv6⟩; have hs := (only_cell ho6 (o := 1) hbj1 hbn2.out).trans t1))
            all_goals go_wp2_with fail
            all_goals go_roundw
            case measure => simp [intOf]; omega
            case rel => exact ⟨j + 1, by go_num, rfl, by omega, by rw [← Nat.add_assoc]; exact inv6, Nat.lt_of_lt_of_le hbj ho6.size, hs, (only_cell ho6 (o := 2) hbj1 hbn2.out).trans j2⟩
          · have hstop : mm ≤ (j : Int) ∨ ((j : Int) < mm ∧ 30 ≤ (j : Int)) := by omega
            rcases hstop with hst | ⟨hst, hst2⟩
            all_goals (
              go_wp2_with (go_at_call 32; refine (inv_same nn hNk invj).mono ?_; rintro e w7 ⟨rfl, inv7⟩)
              all_goals go_roundw)
            all_goals first
              | exact ⟨k + 1, by omega, by go_num, inv7.up (by omega)⟩
              | (simp [intOf]; omega)
      · have q0 : (kk == 0) = false := by simpa using k0
        have q1 : (kk == 1) = false := by simpa using k1
        have q2 : (kk == 2) = false := by simpa using k2
        go_wp2_with (go_at_call 32; refine (inv_same nn hNk inv3).mono ?_; rintro e w7 ⟨rfl, inv7⟩)
        all_goals go_roundw
        case measure => simp [intOf]; omega
        case rel => exact ⟨k + 1, by omega, by go_num, inv7.up (by omega)⟩
    · go_wp2_with (go_at_call 20; refine (awake24_any _).mono ?_; rintro e w3 ⟨rfl, hb⟩)
      all_goals go_ret
      all_goals
        obtain ⟨_, _, _, _, _, h⟩ := hinv
        exact ⟨rfl, bl_trans h hb⟩
theorem ringPlays_walk (W : World) (a : Int) (wa : (Lit.int .i64 a).wf = true) (la : Option Addr) (l c : Nat) (x : List (Int × Int × Int × Unit)) (h : (rSl (rPair (rInt .i64) (rPair (rInt .i64) (rPair (rInt .i64) rUnit)))).ok (Sub.all W) [.slice la l c] x) :
    Calls Try.prog 9 #[.int .i64 a, .slice la l c] W fun e w' => e = .returned (.bool true) ∧ Below W.heap.size W w' := by
  obtain ⟨a', c', e, _, _, hr⟩ := h
  simp only [List.cons.injEq, Value.slice.injEq, and_true] at e
  obtain ⟨rfl, rfl, rfl⟩ := e
  by_cases ho : a < 1 ∨ 1000 < a
  · exact plays_out a ho _ _ _ W
  obtain ⟨cap, rfl⟩ : ∃ cap : Nat, a = cap := ⟨a.toNat, by omega⟩
  by_cases hl : 40 < x.length
  · exact plays_great cap (by omega) _ _ _ hl W
  have bd : ∀ m : Int, (Lit.int .i64 m).wf = true → -9223372036854775808 ≤ m ∧ m ≤ 9223372036854775807 := fun m wm => by
    simp [Lit.wf, IntKind.min, IntKind.max, IntKind.signed, IntKind.bits] at wm; omega
  have hcells : ∀ b o, RowAt (rPair (rInt .i64) (rPair (rInt .i64) (rPair (rInt .i64) rUnit))) (Sub.all W) b o x → ∀ i (hi : i < x.length), (W.cell? ⟨b, o + i * 3, none⟩ = some (.int .i64 x[i].1) ∧ W.cell? ⟨b, o + i * 3 + 1, none⟩ = some (.int .i64 x[i].2.1) ∧ W.cell? ⟨b, o + i * 3 + 2, none⟩ = some (.int .i64 x[i].2.2.1)) ∧ (Lit.int .i64 x[i].2.1).wf = true := fun b o hrow i hi => by
    obtain ⟨cs, hok, hc⟩ := hrow i hi
    obtain ⟨a1, r1, e1, ⟨q1, w1⟩, a2, r2, e2, ⟨q2, w2⟩, a3, r3, e3, ⟨q3, w3⟩, q4⟩ := hok
    have hcs : cs = [.int .i64 x[i].1, .int .i64 x[i].2.1, .int .i64 x[i].2.2.1] := by
      rw [e1, q1, e2, q2, e3, q3, show r3 = [] from q4]
      rfl
    subst hcs
    have g0 := hc.cell (Sub.all_in W) (j := 0) (by simp)
    have g1 := hc.cell (Sub.all_in W) (j := 1) (by simp)
    have g2 := hc.cell (Sub.all_in W) (j := 2) (by simp)
    exact ⟨⟨g0, g1, g2⟩, w2⟩
  refine plays_main cap (by omega) la c x.length (by omega) (fun i => (x[i]?.map (·.1)).getD 0) (fun i => (x[i]?.map (·.2.1)).getD 0) (fun i => (x[i]?.map (·.2.2.1)).getD 0) (fun i hi => ?_) W (fun h0 => ?_)
  · obtain ⟨b, o, rfl, hrow⟩ := hr (by omega)
    have := (hcells b o hrow i hi).2
    simp only [List.getElem?_eq_getElem hi, Option.map_some, Option.getD_some]
    exact bd _ this
  · obtain ⟨b, o, rfl, hrow⟩ := hr h0
    have h1 := hcells b o hrow 0 h0
    refine ⟨b, o, rfl, World.block_lt_of_cell? W ⟨b, o + 0 * 3, none⟩ h1.1.1, fun i hi => ?_⟩
    have := (hcells b o hrow i hi).1
    simp only [List.getElem?_eq_getElem hi, Option.map_some, Option.getD_some]
    exact this
end Go.Proofs.Ytfbimghnimepjaa
