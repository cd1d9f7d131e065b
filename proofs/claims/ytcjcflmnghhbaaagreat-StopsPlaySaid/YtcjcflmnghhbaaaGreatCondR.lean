/-
  cond.parser: part, of what is none of not and (; of chapter 27.
  Conditions: as each theorem states them.
-/
import Derived.Test.YtcjcflmnghhbaaaGreatCondQ
namespace Go.Proofs.YtcjcflmnghhbaaaGreat
open Go.RowKit
set_option linter.unusedVariables false
set_option linter.unusedSimpArgs false
open CM (Sv Pc Ps)
/-- behind the lookup of a flag -/
def FlagR (W1 : World) (lo : Nat) (vf : Value) (fa : Bool) (s6 s7 : Value) (wx : World) : Prop := ∃ b, s6 = .pointer (some ⟨b, 0, none⟩) ∧ s7 = .bool fa ∧ wx.cell? ⟨b, 0, none⟩ = some vf ∧ b < wx.heap.size ∧ lo ≤ b ∧ Below W1.heap.size W1 wx
theorem flag_shape (s : List UInt8) : (∃ k, (tabF flagT ⟨s.toArray⟩).getD .nilFunc = .func (.func k) #[] #[]) ∨ (tabF flagT ⟨s.toArray⟩).getD .nilFunc = .nilFunc := by
  cases h : CM.flagOf s with
  | some f =>
    obtain ⟨k, e, _⟩ := flag_is s f h
    exact .inl ⟨k, e⟩
  | none =>
    have h2 := flag_some s
    rw [h] at h2
    cases h3 : tabF flagT ⟨s.toArray⟩ with
    | none => exact .inr rfl
    | some v => rw [h3] at h2; simp at h2
set_option maxHeartbeats 4000000 in
set_option maxRecDepth 100000 in
theorem part_atom {s : List UInt8} {n : Nat} {p : Ps} {w : World} {g : Nat} (h : Fit s p w g) (hok : CM.Ok s p) (hi0 : p.pc.is 1 CM.notW = false) (hi : p.pc.is 5 [40] = false) :
    Calls Tryz.prog 67 #[.pointer (some ⟨g, 0, none⟩)] w (HoldsOut s g w (CM.run s (n + 1) .part p)) := by
  have hR : CM.run s (n + 1) .part p = CM.atomS s p := by simp only [CM.run]; rw [if_neg (by rw [hi0]; simp), if_neg (by rw [hi]; simp)]
  rw [hR]
  clear hR
  obtain ⟨c0, c1, c2, c3, c4, c5, c6⟩ := h.at_.facts
  have hgl := h.at_.lt
  obtain ⟨W1, hW1⟩ : ∃ W1, w.alloc (.cells (pcCells p.pc).toArray 92) = W1 := ⟨_, rfl⟩
  have hF : Fit s p W1 g := hW1 ▸ h.alloc _
  have hO : Oly g w W1 := hW1 ▸ (Only.refl _ w).alloc _
  have hX : Blk W1 w.heap.size 92 (pcCells p.pc) := hW1 ▸ Blk.new w _ _
  have hW1' : w.alloc (.cells #[.int .i64 (p.pc.kind : Int), .int .i64 (p.pc.at_ : Int), .int .i64 p.pc.n, .string ⟨p.pc.s.toArray⟩] 92) = W1 := hW1
  have hne : w.heap.size ≠ g := by omega
  clear hW1 h
  replace hW1' := Lib.hid hW1'
  replace hO := Lib.hid hO
  obtain ⟨x0, x1, x2, x3⟩ : W1.cell? ⟨w.heap.size, 0, none⟩ = some (.int .i64 (p.pc.kind : Int)) ∧ W1.cell? ⟨w.heap.size, 1, none⟩ = some (.int .i64 (p.pc.at_ : Int)) ∧ W1.cell? ⟨w.heap.size, 2, none⟩ = some (.int .i64 p.pc.n) ∧ W1.cell? ⟨w.heap.size, 3, none⟩ = some (strV p.pc.s) := ⟨hX.cell 0, hX.cell 1, hX.cell 2, hX.cell 3⟩
  have hxl := hX.lt
  have hgl1 := hF.at_.lt
  go_enter Tryz.func67, Tryz.ntmps67
  go_upto_region 2 with fail
  rw [hW1'.out]
  clear c0 c1 c2 c3 c4 c5 c6 hgl hW1' hX
  obtain ⟨gx, hgx⟩ : ∃ gx, w.heap.size = gx := ⟨_, rfl⟩
  rw [hgx] at x0 x1 x2 x3 hxl hne ⊢
  replace hgx := Lib.hid hgx
  replace hF := Lib.hid hF
  replace hok := Lib.hid hok
  go_cut [16] from 17 to 24 (fun s16 wx => s16 = .bool false ∧ W1 = wx)
  case first =>
    by_cases hk : p.pc.kind = 1
    · have q0 : ((p.pc.kind : Int) == 1) = true := by rw [hk]; rfl
      have q1 : (p.pc.s == CM.notW) = false := by
        rcases not_is hi0 with h | h
        · exact absurd hk h
        · simpa using h
      clear hk
      go_wp2_with fail
      all_goals go_meet
      all_goals exact ⟨rfl, rfl⟩
    · have q0 : ((p.pc.kind : Int) == 1) = false := by simp; omega
      clear hk
      go_wp2_with fail
      all_goals go_meet
      all_goals exact ⟨rfl, rfl⟩
  case rest =>
  obtain ⟨rfl, rfl⟩ := hcut
  go_upto_region 7 with fail
  go_cut [37] from 38 to 45 (fun s16 wx => s16 = .bool false ∧ W1 = wx)
  case first =>
    by_cases hk : p.pc.kind = 5
    · have q0 : ((p.pc.kind : Int) == 5) = true := by rw [hk]; rfl
      have q1 : (p.pc.s == [40]) = false := by
        rcases not_is hi with h | h
        · exact absurd hk h
        · simpa using h
      clear hk
      go_wp2_with fail
      all_goals go_meet
      all_goals exact ⟨rfl, rfl⟩
    · have q0 : ((p.pc.kind : Int) == 5) = false := by simp; omega
      clear hk
      go_wp2_with fail
      all_goals go_meet
      all_goals exact ⟨rfl, rfl⟩
  case rest =>
  obtain ⟨rfl, rfl⟩ := hcut
  clear hi0 hi
  go_upto_region 15 with fail
  obtain ⟨vf, hvf⟩ : ∃ v, (tabF flagT ⟨p.pc.s.toArray⟩).getD .nilFunc = v := ⟨_, rfl⟩
  obtain ⟨fa, hfa⟩ : ∃ v, (tabF flagT ⟨p.pc.s.toArray⟩).isSome = v := ⟨_, rfl⟩
  go_cut [6, 7] from 80 to 86 (fun s6 s7 wx => FlagR W1 W1.heap.size vf fa s6 s7 wx)
  case first => --DONE
    have hsh := flag_shape p.pc.s
    rw [hvf] at hsh
    have hfn := Lib.hid (fun W => flag_any W)
    have hlk := Lib.hid (fun (W : World) (m : Nat) (hM : StrMap W m (tabF flagT)) => look_tab hM Tryz.underlying134 (zero_flag W) p.pc.s)
    rw [hvf, hfa] at hlk
    have hcell := Lib.hid (fun (W : World) (hb : Below W1.heap.size W1 W) => hb.cell (p := ⟨gx, 3, none⟩) hxl)
    clear x0 x1 x2
    replace hvf := Lib.hid hvf
    replace hfa := Lib.hid hfa
    rcases hsh with ⟨k, rfl⟩ | rfl
    all_goals
      go_region_with (first
        | (go_at_call 62; (with_reducible refine (hfn.out _).mono ?_); rintro e w2 ⟨m, rfl, hM, hm1, hm2, hb2⟩; have hlk2 := hlk.out _ _ hM; have hlk3 := fun o => hlk.out _ _ (hM.below (bl_alloc (Below.refl _ _) o)); have hB2 : Below W1.heap.size W1 w2 := (by first | exact bl_trans (bl_drew (Below.refl _ _)) hb2 | exact bl_trans (bl_alloc (bl_drew (Below.refl _ _)) _) hb2 | exact bl_trans (bl_drew (bl_alloc (Below.refl _ _) _)) hb2); have hc2 := hcell.out _ hB2; have hs2 := hB2.size; have hgl2 : gx < w2.heap.size := Nat.lt_of_lt_of_le hxl hs2; first | (with_reducible have _hA : Below W1.drew.heap.size W1.drew w2 := hb2) | (have hn2 : w2.cell? ⟨W1.heap.size, 0, none⟩ = some .nilFunc := (hb2.cell (p := ⟨W1.heap.size, 0, none⟩) (by simp)).trans (by simp [go_sem]); have hz2 : w2.frozen? ⟨W1.heap.size, 0, none⟩ = false := (hb2.frozen (p := ⟨W1.heap.size, 0, none⟩) (by simp)).trans (by simp [go_sem]); have hl2 : W1.heap.size < w2.heap.size := Nat.lt_of_lt_of_le (by simp) hb2.size)))
      all_goals go_wp2_with fail
      all_goals go_meet
      all_goals first
        | exact ⟨w2.heap.size, rfl, rfl, (Blk.new w2 _ [_]).cell 0, by simp, hs2, bl_alloc hB2 _⟩
        | exact ⟨W1.heap.size, rfl, rfl, by simp [hn2, go_sem], by simpa [World.setCell] using hl2, Nat.le_refl _, bl_setCell hB2 (Nat.le_refl _) _⟩
  case rest =>
  unfold FlagR at hcut
  obtain ⟨bf, rfl, rfl, hfc, hfl, hfs, hB2⟩ := hcut
  obtain ⟨W2, hw2⟩ : ∃ w2 : World, w2 = wc := ⟨_, rfl⟩
  subst hw2
  obtain ⟨y0, y1, y3⟩ : W2.cell? ⟨gx, 0, none⟩ = some (.int .i64 (p.pc.kind : Int)) ∧ W2.cell? ⟨gx, 1, none⟩ = some (.int .i64 (p.pc.at_ : Int)) ∧ W2.cell? ⟨gx, 3, none⟩ = some (strV p.pc.s) :=
    ⟨(hB2.cell (p := ⟨gx, 0, none⟩) hxl).trans x0, (hB2.cell (p := ⟨gx, 1, none⟩) hxl).trans x1, (hB2.cell (p := ⟨gx, 3, none⟩) hxl).trans x3⟩
  have hxl2 : gx < W2.heap.size := Nat.lt_of_lt_of_le hxl hB2.size
  have hF2 := Lib.hid (⟨hF.out.len, hF.out.le, Blk.below hF.out.at_ hB2⟩ : Fit s p W2 g)
  have hO2 := Lib.hid (Only.trans hO.out (Only.of_below hB2) : Oly g w W2)
  have hbg : bf ≠ g := by omega
  have hgb : g < bf := by omega
  clear x0 x1 x2 x3 hF hO hxl hgl1 hfs hB2
  obtain ⟨vn, hvn⟩ : ∃ v, (tabF numT ⟨p.pc.s.toArray⟩).getD .nilFunc = v := ⟨_, rfl⟩
  obtain ⟨fb, hfb⟩ : ∃ v, (tabF numT ⟨p.pc.s.toArray⟩).isSome = v := ⟨_, rfl⟩
  obtain ⟨vt, hvt⟩ : ∃ v, (tabF txtT ⟨p.pc.s.toArray⟩).getD .nilFunc = v := ⟨_, rfl⟩
  obtain ⟨fc, hfc2⟩ : ∃ v, (tabF txtT ⟨p.pc.s.toArray⟩).isSome = v := ⟨_, rfl⟩
  have hlkn := fun (W : World) (m : Nat) (hM : StrMap W m (tabF numT)) => look_tab hM Tryz.underlying126 (zero_num W) p.pc.s
  have hlkt := fun (W : World) (m : Nat) (hM : StrMap W m (tabF txtT)) => look_tab hM Tryz.underlying130 (zero_txt W) p.pc.s
  rw [hvn, hfb] at hlkn
  rw [hvt, hfc2] at hlkt
  replace hlkn := Lib.hid hlkn
  replace hlkt := Lib.hid hlkt
  replace hvf := Lib.hid hvf
  replace hfa := Lib.hid hfa
  replace hvn := Lib.hid hvn
  replace hfb := Lib.hid hfb
  replace hvt := Lib.hid hvt
  replace hfc2 := Lib.hid hfc2
  replace hfc := Lib.hid hfc
  go_upto_region 16 with fail
  go_cut [8, 9] from 87 to 93 (fun s8 s9 wx => s8 = vn ∧ s9 = .bool fb ∧ Below W2.heap.size W2 wx)
  case first => --DONE
    have hcell := Lib.hid (fun (W : World) (hb : Below W2.heap.size W2 W) => hb.cell (p := ⟨gx, 3, none⟩) hxl2)
    have hfn := Lib.hid (fun W => num_any W)
    clear y0 y1
    go_region_with (first
      | (go_at_call 60; (with_reducible refine (hfn.out _).mono ?_); rintro e w2 ⟨m, rfl, hM, hm1, hm2, hb2⟩; have hlk2 := hlkn.out _ _ hM; have hB2 : Below W2.heap.size W2 w2 := (by first | exact bl_trans (bl_drew (Below.refl _ _)) hb2 | exact hb2); have hc2 := hcell.out _ hB2; have hgl2 : gx < w2.heap.size := Nat.lt_of_lt_of_le hxl2 hB2.size))
    all_goals go_wp2_with fail
    all_goals go_meet
    all_goals exact ⟨rfl, rfl, hB2⟩
  case rest =>
  obtain ⟨rfl, rfl, hB3⟩ := hcut
  obtain ⟨W3, hw3⟩ : ∃ w3 : World, w3 = wc := ⟨_, rfl⟩
  subst hw3
  have z3 : W3.cell? ⟨gx, 3, none⟩ = some (strV p.pc.s) := (hB3.cell (p := ⟨gx, 3, none⟩) hxl2).trans y3
  have hxl3 : gx < W3.heap.size := Nat.lt_of_lt_of_le hxl2 hB3.size
  go_upto_region 17 with fail
  go_cut [10, 11] from 94 to 100 (fun s8 s9 wx => s8 = vt ∧ s9 = .bool fc ∧ Below W3.heap.size W3 wx)
  case first => --DONE
    have hcell := Lib.hid (fun (W : World) (hb : Below W3.heap.size W3 W) => hb.cell (p := ⟨gx, 3, none⟩) hxl3)
    have hfn := Lib.hid (fun W => txt_any W)
    clear y0 y1 y3
    go_region_with (first
      | (go_at_call 61; (with_reducible refine (hfn.out _).mono ?_); rintro e w2 ⟨m, rfl, hM, hm1, hm2, hb2⟩; have hlk2 := hlkt.out _ _ hM; have hB2 : Below W3.heap.size W3 w2 := (by first | exact bl_trans (bl_drew (Below.refl _ _)) hb2 | exact hb2); have hc2 := hcell.out _ hB2; have hgl2 : gx < w2.heap.size := Nat.lt_of_lt_of_le hxl3 hB2.size))
    all_goals go_wp2_with fail
    all_goals go_meet
    all_goals exact ⟨rfl, rfl, hB2⟩
  case rest =>
  obtain ⟨rfl, rfl, hB4⟩ := hcut
  obtain ⟨W4, hw4⟩ : ∃ w4 : World, w4 = wc := ⟨_, rfl⟩
  subst hw4
  have hB := bl_trans hB3 hB4
  clear hB3 hB4 z3 hxl3 hlkn hlkt
  obtain ⟨z0, z1, z3⟩ : W4.cell? ⟨gx, 0, none⟩ = some (.int .i64 (p.pc.kind : Int)) ∧ W4.cell? ⟨gx, 1, none⟩ = some (.int .i64 (p.pc.at_ : Int)) ∧ W4.cell? ⟨gx, 3, none⟩ = some (strV p.pc.s) :=
    ⟨(hB.cell (p := ⟨gx, 0, none⟩) hxl2).trans y0, (hB.cell (p := ⟨gx, 1, none⟩) hxl2).trans y1, (hB.cell (p := ⟨gx, 3, none⟩) hxl2).trans y3⟩
  have hxl4 : gx < W4.heap.size := Nat.lt_of_lt_of_le hxl2 hB.size
  have hF4 := (⟨hF2.out.len, hF2.out.le, Blk.below hF2.out.at_ hB⟩ : Fit s p W4 g)
  have hO4 := Lib.hid (Only.trans hO2.out (Only.of_below hB) : Oly g w W4)
  have hfc4 := Lib.hid ((hB.cell (p := ⟨bf, 0, none⟩) hfl).trans hfc.out)
  have hfl4 := Lib.hid (Nat.lt_of_lt_of_le hfl hB.size)
  have hgl4 := hF4.at_.lt
  clear y0 y1 y3 hF2 hO2 hxl2 hfc hfl hB
  have hfl := Lib.hid (fun W => fail_any (p.pc.at_ : Int) 9 W)
  by_cases hk : p.pc.kind = 1
  case neg =>
    have q0 : ((p.pc.kind : Int) != 1) = true := by simp; omega
    have hS : CM.atomS s p = .error (p.pc.at_, 9) := by unfold CM.atomS; rw [if_neg hk]
    replace hS := Lib.hid hS
    clear hk hF4 hok
    go_wp2_with (go_at_call 46; refine (hfl.out _).mono ?_; rintro e w5 ⟨rfl, hw5⟩; subst hw5)
    all_goals exact ⟨rfl, Out.err hS.out hO4.out⟩
  case pos =>
  have q0 : ((p.pc.kind : Int) != 1) = false := by rw [hk]; rfl
  have hk0 : p.pc.kind ≠ 0 := by omega
  have hnn := fun (a : Nat) (x : Int) (hn : p.next s = .error (a, x)) => next_err hF4 hn
  have hny := fun (q : Ps) (hn : p.next s = .ok q) => next_ok hF4 hn
  have hnl := fun (q : Ps) (hn : p.next s = .ok q) => (CM.next_less hok.out hk0 hn).1
  have hlen := hF4.len
  replace hnn := Lib.hid hnn
  replace hny := Lib.hid hny
  replace hnl := Lib.hid hnl
  clear hF4 hok
  cases hfl0 : CM.flagOf p.pc.s with
  | some f =>
    have e1 := hfa.out
    rw [flag_some, hfl0] at e1
    obtain rfl : true = fa := e1
    obtain ⟨k, hkv, G, hE⟩ := flag_ent _ _ hfl0
    rw [hvf.out] at hkv
    subst hkv
    cases hn : p.next s with
    | error e =>
      obtain ⟨a, x⟩ := e
      have hS : CM.atomS s p = .error (a, x) := by unfold CM.atomS; rw [if_pos hk, hfl0]; simp only; rw [hn]
      have hnx := Lib.hid (hnn.out _ _ hn)
      replace hS := Lib.hid hS
      clear hk hn hfl0 hnn hny hnl
      go_wp2_with (go_at_call 31; refine hnx.out.mono ?_; rintro e w5 ⟨rfl, hO5⟩)
      all_goals exact ⟨rfl, Out.err hS.out (Only.trans hO4.out hO5)⟩
    | ok q =>
      have hS : CM.atomS s p = .ok (fun _ now => f now, q) := by unfold CM.atomS; rw [if_pos hk, hfl0]; simp only; rw [hn]
      have hnx := Lib.hid (hny.out _ hn)
      replace hS := Lib.hid hS
      replace G := Lib.hid G
      replace hE := Lib.hid hE
      clear hk hn hfl0 hnn hny hnl
      go_wp2_with (go_at_call 31; refine hnx.out.mono ?_; rintro e w5 ⟨rfl, hP5, hO5⟩)
      all_goals go_ret
      all_goals exact Out.ok hS.out (HoldsIs.flag ((oly_cell hO5 hfl4.out hbg).trans hfc4.out) (Nat.lt_of_lt_of_le hfl4.out hO5.size) hgb G.out hE.out) hP5 (Only.trans hO4.out hO5)
  | none =>
    have e1 := hfa.out
    rw [flag_some, hfl0] at e1
    obtain rfl : false = fa := e1
    cases hnu : CM.numOf p.pc.s with
    | some f =>
      have e2 := hfb.out
      rw [num_some, hnu] at e2
      obtain rfl : true = fb := e2
      obtain ⟨k, hkv, G, hE⟩ := num_ent _ _ hnu
      rw [hvn.out] at hkv
      unfold fnV at hkv
      subst hkv
      cases hn : p.next s with
      | error e =>
        obtain ⟨a, x⟩ := e
        have hS : CM.atomS s p = .error (a, x) := by unfold CM.atomS; rw [if_pos hk, hfl0, hnu]; simp only; rw [hn]
        have hnx := Lib.hid (hnn.out _ _ hn)
        replace hS := Lib.hid hS
        clear hk hn hfl0 hnn hny hnl hnu
        go_wp2_with (go_at_call 31; refine hnx.out.mono ?_; rintro e w5 ⟨rfl, hO5⟩)
        all_goals exact ⟨rfl, Out.err hS.out (Only.trans hO4.out hO5)⟩
      | ok q =>
        have hS : CM.atomS s p = CM.numberS s f q := by unfold CM.atomS; rw [if_pos hk, hfl0, hnu]; simp only; rw [hn]
        have hnx := Lib.hid (hny.out _ hn)
        have hnb := fun w5 (hP : PsAt w5 g s q) => number_any ⟨hlen, (hnl.out _ hn).ok.le, hP⟩ (hnl.out _ hn).ok G hE
        cases hR : CM.numberS s f q with
        | error e =>
          obtain ⟨a, x⟩ := e
          have hn2 := Lib.hid (fun w5 (hP : PsAt w5 g s q) => Out.no (hnb w5 hP) hR)
          rw [hR] at hS
          replace hS := Lib.hid hS
          clear hk hn hnn hny hnl hnb hR hfl0 hnu G hE
          go_wp2_with (first
            | (go_at_call 31; refine hnx.out.mono ?_; rintro e w5 ⟨rfl, hP5, hO5⟩)
            | (go_at_call 90; refine (hn2.out _ hP5).mono ?_; rintro e w6 ⟨rfl, hO6⟩))
          all_goals exact ⟨rfl, Out.err hS.out (Only.trans hO4.out (Only.trans hO5 hO6))⟩
        | ok fr =>
          obtain ⟨phi, r⟩ := fr
          have hn2 := Lib.hid (fun w5 (hP : PsAt w5 g s q) => Out.yes (hnb w5 hP) hR)
          rw [hR] at hS
          replace hS := Lib.hid hS
          clear hk hn hnn hny hnl hnb hR hfl0 hnu G hE
          go_wp2_with (first
            | (go_at_call 31; refine hnx.out.mono ?_; rintro e w5 ⟨rfl, hP5, hO5⟩)
            | (go_at_call 90; refine (hn2.out _ hP5).mono ?_; rintro e w6 ⟨v, rfl, hH, hP6, hO6⟩))
          all_goals go_ret
          all_goals exact Out.ok hS.out hH hP6 (Only.trans hO4.out (Only.trans hO5 hO6))
    | none =>
      have e2 := hfb.out
      rw [num_some, hnu] at e2
      obtain rfl : false = fb := e2
      cases htu : CM.txtOf p.pc.s with
      | some f =>
        have e3 := hfc2.out
        rw [txt_some, htu] at e3
        obtain rfl : true = fc := e3
        obtain ⟨k, hkv, G, hE⟩ := txt_ent _ _ htu
        rw [hvt.out] at hkv
        unfold fnV at hkv
        subst hkv
        cases hn : p.next s with
        | error e =>
          obtain ⟨a, x⟩ := e
          have hS : CM.atomS s p = .error (a, x) := by unfold CM.atomS; rw [if_pos hk, hfl0, hnu, htu]; simp only; rw [hn]
          have hnx := Lib.hid (hnn.out _ _ hn)
          replace hS := Lib.hid hS
          clear hk hn hnn hny hnl hfl0 hnu htu G hE
          go_wp2_with (go_at_call 31; refine hnx.out.mono ?_; rintro e w5 ⟨rfl, hO5⟩)
          all_goals exact ⟨rfl, Out.err hS.out (Only.trans hO4.out hO5)⟩
        | ok q =>
          have hS : CM.atomS s p = CM.textS s f q := by unfold CM.atomS; rw [if_pos hk, hfl0, hnu, htu]; simp only; rw [hn]
          have hnx := Lib.hid (hny.out _ hn)
          have hnb := fun w5 (hP : PsAt w5 g s q) => text_any ⟨hlen, (hnl.out _ hn).ok.le, hP⟩ (hnl.out _ hn).ok G hE
          cases hR : CM.textS s f q with
          | error e =>
            obtain ⟨a, x⟩ := e
            have hn2 := Lib.hid (fun w5 (hP : PsAt w5 g s q) => Out.no (hnb w5 hP) hR)
            rw [hR] at hS
            replace hS := Lib.hid hS
            clear hk hn hnn hny hnl hnb hR hfl0 hnu htu G hE
            go_wp2_with (first
              | (go_at_call 31; refine hnx.out.mono ?_; rintro e w5 ⟨rfl, hP5, hO5⟩)
              | (go_at_call 91; refine (hn2.out _ hP5).mono ?_; rintro e w6 ⟨rfl, hO6⟩))
            all_goals exact ⟨rfl, Out.err hS.out (Only.trans hO4.out (Only.trans hO5 hO6))⟩
          | ok fr =>
            obtain ⟨phi, r⟩ := fr
            have hn2 := Lib.hid (fun w5 (hP : PsAt w5 g s q) => Out.yes (hnb w5 hP) hR)
            rw [hR] at hS
            replace hS := Lib.hid hS
            clear hk hn hnn hny hnl hnb hR hfl0 hnu htu G hE
            go_wp2_with (first
              | (go_at_call 31; refine hnx.out.mono ?_; rintro e w5 ⟨rfl, hP5, hO5⟩)
              | (go_at_call 91; refine (hn2.out _ hP5).mono ?_; rintro e w6 ⟨v, rfl, hH, hP6, hO6⟩))
            all_goals go_ret
            all_goals exact Out.ok hS.out hH hP6 (Only.trans hO4.out (Only.trans hO5 hO6))
      | none =>
        have e3 := hfc2.out
        rw [txt_some, htu] at e3
        obtain rfl : false = fc := e3
        by_cases hph : p.pc.s = CM.phaseW
        · have q1 : (p.pc.s == CM.phaseW) = true := by simpa using hph
          cases hn : p.next s with
          | error e =>
            obtain ⟨a, x⟩ := e
            have hS : CM.atomS s p = .error (a, x) := by unfold CM.atomS; rw [if_pos hk, hfl0, hnu, htu]; simp only; rw [if_pos hph]; rw [hn]
            have hnx := Lib.hid (hnn.out _ _ hn)
            replace hS := Lib.hid hS
            clear hk hn hnn hny hnl hfl0 hnu htu hph
            go_wp2_with (go_at_call 31; refine hnx.out.mono ?_; rintro e w5 ⟨rfl, hO5⟩)
            all_goals exact ⟨rfl, Out.err hS.out (Only.trans hO4.out hO5)⟩
          | ok q =>
            have hS : CM.atomS s p = CM.phaseS s q := by unfold CM.atomS; rw [if_pos hk, hfl0, hnu, htu]; simp only; rw [if_pos hph]; rw [hn]
            have hnx := Lib.hid (hny.out _ hn)
            have hnb := fun w5 (hP : PsAt w5 g s q) => phase_any ⟨hlen, (hnl.out _ hn).ok.le, hP⟩ (hnl.out _ hn).ok
            cases hR : CM.phaseS s q with
            | error e =>
              obtain ⟨a, x⟩ := e
              have hn2 := Lib.hid (fun w5 (hP : PsAt w5 g s q) => Out.no (hnb w5 hP) hR)
              rw [hR] at hS
              replace hS := Lib.hid hS
              clear hk hn hnn hny hnl hnb hR hfl0 hnu htu hph
              go_wp2_with (first
                | (go_at_call 31; refine hnx.out.mono ?_; rintro e w5 ⟨rfl, hP5, hO5⟩)
                | (go_at_call 92; refine (hn2.out _ hP5).mono ?_; rintro e w6 ⟨rfl, hO6⟩))
              all_goals exact ⟨rfl, Out.err hS.out (Only.trans hO4.out (Only.trans hO5 hO6))⟩
            | ok fr =>
              obtain ⟨phi, r⟩ := fr
              have hn2 := Lib.hid (fun w5 (hP : PsAt w5 g s q) => Out.yes (hnb w5 hP) hR)
              rw [hR] at hS
              replace hS := Lib.hid hS
              clear hk hn hnn hny hnl hnb hR hfl0 hnu htu hph
              go_wp2_with (first
                | (go_at_call 31; refine hnx.out.mono ?_; rintro e w5 ⟨rfl, hP5, hO5⟩)
                | (go_at_call 92; refine (hn2.out _ hP5).mono ?_; rintro e w6 ⟨v, rfl, hH, hP6, hO6⟩))
              all_goals go_ret
              all_goals exact Out.ok hS.out hH hP6 (Only.trans hO4.out (Only.trans hO5 hO6))
        · have q1 : (p.pc.s == CM.phaseW) = false := by simpa using hph
          have hS : CM.atomS s p = .error (p.pc.at_, 9) := by unfold CM.atomS; rw [if_pos hk, hfl0, hnu, htu]; simp only; rw [if_neg hph]
          replace hS := Lib.hid hS
          clear hk hfl0 hnu htu hph hnn hny hnl
          go_wp2_with (go_at_call 46; refine (hfl.out _).mono ?_; rintro e w5 ⟨rfl, hw5⟩; subst hw5)
          all_goals exact ⟨rfl, Out.err hS.out hO4.out⟩
end Go.Proofs.YtcjcflmnghhbaaaGreat
