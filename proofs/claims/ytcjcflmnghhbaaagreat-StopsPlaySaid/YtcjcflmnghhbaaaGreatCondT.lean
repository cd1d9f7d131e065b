/-
  cond.parser: both, either; the whole parser; of chapter 27.
  Conditions: as each theorem states them.
-/
import Derived.Test.YtcjcflmnghhbaaaGreatCondR
import Derived.Deep.LoopGhost
namespace Go.Proofs.YtcjcflmnghhbaaaGreat
open Go.RowKit
set_option linter.unusedVariables false
set_option linter.unusedSimpArgs false
open CM (Sv Pc Ps)
theorem part_step {s : List UInt8} {n : Nat} (IHp : PartOk s n) (IHe : EitherOk s n) : PartOk s (n + 1) := fun p w g h hok hm => by
  by_cases h1 : p.pc.is 1 CM.notW = true
  · exact part_not IHp h hok hm h1
  · have h1' : p.pc.is 1 CM.notW = false := by simpa using h1
    by_cases h2 : p.pc.is 5 [40] = true
    · exact part_paren IHe h hok hm h1' h2
    · exact part_atom h hok h1' (by simpa using h2)
/-- the loop of both -/
def BothR (s : List UInt8) (g : Nat) (w : World) (R : Except CM.Er (CM.M × Ps)) (N : Nat) (gh : Nat) (v : Value) (wr : World) : Prop := ∃ (phi : CM.M) (q : Ps), CM.run s gh (.bothL phi) q = R ∧ HoldsIs g phi v wr ∧ PsAt wr g s q ∧ CM.Ok s q ∧ 3 * CM.mu s q + 2 ≤ gh ∧ gh ≤ N ∧ Oly g w wr
set_option maxHeartbeats 4000000 in
set_option maxRecDepth 100000 in
theorem both_step {s : List UInt8} {n : Nat} (IH : ∀ m, m ≤ n → PartOk s m) : BothOk s (n + 1) := fun p w g h hok hm => by
  have hlen := h.len
  unfold HoldsOut
  have hp1 := IH n (Nat.le_refl _) p w g h hok (by omega)
  obtain ⟨R, hR⟩ : ∃ R, CM.run s (n + 1) .both p = R := ⟨_, rfl⟩
  rw [hR]
  have hgl := h.at_.lt
  cases hr : CM.run s n .part p with
  | error e =>
    obtain ⟨a, x⟩ := e
    simp only [CM.run] at hR
    rw [hr] at hR
    have hp2 := Lib.hid (Out.no hp1 hr)
    replace hR := Lib.hid hR.symm
    clear h hok hp1 hr IH
    go_enter Tryz.func50, Tryz.ntmps50
    go_wp2_with (go_at_call 67; refine hp2.out.mono ?_; rintro e w3 ⟨rfl, hO3⟩)
    all_goals exact ⟨rfl, Out.err hR.out hO3⟩
  | ok fr =>
    obtain ⟨phi, q⟩ := fr
    simp only [CM.run] at hR
    rw [hr] at hR
    have hp2 := Lib.hid (Out.yes hp1 hr)
    obtain ⟨hl, hlt⟩ := CM.run_less s n _ _ _ _ hok hr
    have hlt := hlt rfl
    have hqok := Lib.hid hl.ok
    simp only at hR
    have hR0 := Lib.hid hR
    replace IH := Lib.hid IH
    clear h hok hp1 hr hR hl
    go_enter Tryz.func50, Tryz.ntmps50
    go_upto_block 0 with (go_at_call 67; refine hp2.out.mono ?_; rintro e w3 ⟨v, rfl, hH, hP, hO⟩)
    replace hP := Lib.hid hP
    replace hH := Lib.hid hH
    replace hO := Lib.hid hO
    go_wp2_with fail
    go_loopg [3] n (fun gh v wr => ∃ m, gh = m ∧ Hid (BothR s g w R n m v wr))
    case atStart => exact ⟨n, rfl, Lib.hid ⟨phi, q, hR0.out, hH.out, hP.out, hqok.out, by omega, Nat.le_refl _, hO.out⟩⟩
    case round =>
      obtain ⟨m, hgm, hrel⟩ := hrel
      replace hgm := hgm.symm
      subst hgm
      obtain ⟨psi, r, hrun, hHr, hPr, hrok, hfu, hN, hOr⟩ := hrel.out
      clear hrel hP hH hO hqok hR0 hp2 hlt
      obtain ⟨k, rfl⟩ : ∃ k, m = k + 1 := ⟨m - 1, by omega⟩
      have hFr : Fit s r wr g := ⟨hlen, hrok.le, hPr⟩
      obtain ⟨ff, caps, rfl⟩ := hHr.shape
      simp only [CM.run] at hrun
      replace hOr := Lib.hid hOr
      replace hHr := Lib.hid hHr
      by_cases hi : r.pc.is 1 CM.andW = true
      · rw [if_pos hi] at hrun
        cases hn : r.next s with
        | error e =>
          obtain ⟨a, x⟩ := e
          rw [hn] at hrun
          have hnx := Lib.hid (is1_err hFr hi hn)
          replace hrun := Lib.hid hrun.symm
          clear hFr hPr hrok hi hn IH
          go_wp2_with (go_at_call 51; refine hnx.out.mono ?_; rintro e w5 ⟨rfl, hO5⟩)
          all_goals exact ⟨rfl, Out.err hrun.out (Only.trans hOr.out hO5)⟩
        | ok t =>
          rw [hn] at hrun
          simp only at hrun
          have hnx := Lib.hid (is1_ok hFr hi hn)
          obtain ⟨ht, htlt⟩ := CM.next_less hrok (CM.is_some hi) hn
          have hpt := fun w5 (hP : PsAt w5 g s t) => IH.out k (by omega) t w5 g ⟨hlen, ht.ok.le, hP⟩ ht.ok (by omega)
          cases hq : CM.run s k .part t with
          | error e =>
            obtain ⟨a, x⟩ := e
            rw [hq] at hrun
            have hp5 := Lib.hid (fun w5 (hP : PsAt w5 g s t) => Out.no (hpt w5 hP) hq)
            replace hrun := Lib.hid hrun.symm
            clear hFr hPr hrok hi hn IH hpt hq
            go_wp2_with (first
              | (go_at_call 51; refine hnx.out.mono ?_; rintro e w5 ⟨rfl, hP5, hO5⟩)
              | (go_at_call 67; refine (hp5.out _ hP5).mono ?_; rintro e w6 ⟨rfl, hO6⟩))
            all_goals exact ⟨rfl, Out.err hrun.out (Only.trans hOr.out (Only.trans hO5 hO6))⟩
          | ok br =>
            obtain ⟨chi, u⟩ := br
            rw [hq] at hrun
            simp only at hrun
            have hp5 := Lib.hid (fun w5 (hP : PsAt w5 g s t) => Out.yes (hpt w5 hP) hq)
            obtain ⟨hu, hult⟩ := CM.run_less s k _ _ _ _ ht.ok hq
            have hult := hult rfl
            have huok := Lib.hid hu.ok
            have hgl5 := Lib.hid (fun w5 (ho : Oly g wr w5) => Nat.lt_of_lt_of_le hPr.lt ho.size)
            replace hrun := Lib.hid hrun
            clear hFr hPr hrok hi hn hpt hq hu ht
            go_wp2_with (first
              | (go_at_call 51; refine hnx.out.mono ?_; rintro e w5 ⟨rfl, hP5, hO5⟩)
              | (go_at_call 67; refine (hp5.out _ hP5).mono ?_; rintro e w6 ⟨v, rfl, hH6, hP6, hO6⟩; obtain ⟨fg, caps2, rfl⟩ := hH6.shape; replace hH6 := Lib.hid hH6; replace hP6 := Lib.hid hP6))
            all_goals go_roundg k
            case measure => omega
            case rel =>
              have o6 : Oly g wr w6 := Only.trans hO5 hO6
              have hg6 := hgl5.out _ o6
              have oA : Oly g w6 ((w6.alloc (.cells #[.func (.func ff) #[] caps] 96)).alloc (.cells #[.func (.func fg) #[] caps2] 96)) := Only.alloc (Only.alloc (Only.refl _ w6) _) _
              have hA := (hHr.out.later o6).later oA
              have hB := hH6.out.later oA
              have hc1 : ((w6.alloc (.cells #[.func (.func ff) #[] caps] 96)).alloc (.cells #[.func (.func fg) #[] caps2] 96)).cell? ⟨w6.heap.size, 0, none⟩ = some (.func (.func ff) #[] caps) := ((Blk.new w6 96 [.func (.func ff) #[] caps]).alloc _).cell 0
              have hc2 : ((w6.alloc (.cells #[.func (.func ff) #[] caps] 96)).alloc (.cells #[.func (.func fg) #[] caps2] 96)).cell? ⟨w6.heap.size + 1, 0, none⟩ = some (.func (.func fg) #[] caps2) := by
                have := (Blk.new (w6.alloc (.cells #[.func (.func ff) #[] caps] 96)) 96 [.func (.func fg) #[] caps2]).cell 0
                rw [size_alloc] at this
                exact this
              exact ⟨k, rfl, Lib.hid ⟨_, u, hrun.out, HoldsIs.both hc1 (by simp; omega) (by omega) hA hc2 (by simp) (by omega) hB, (Blk.alloc (Blk.alloc hP6.out _) _), huok.out, by omega, by omega, Only.trans hOr.out (Only.trans o6 oA)⟩⟩
      · rw [if_neg hi] at hrun
        have hno := Lib.hid (is1_no hFr (by simpa using hi))
        replace hrun := Lib.hid hrun.symm
        replace hPr := Lib.hid hPr
        clear hFr hrok hi IH
        go_wp2_with (go_at_call 51; refine hno.out.mono ?_; rintro e w5 ⟨rfl, rfl⟩)
        all_goals go_ret
        all_goals exact Out.ok hrun.out hHr.out hPr.out hOr.out
/-- the loop of either -/
def EitherR (s : List UInt8) (g : Nat) (w : World) (R : Except CM.Er (CM.M × Ps)) (N : Nat) (gh : Nat) (v : Value) (wr : World) : Prop := ∃ (phi : CM.M) (q : Ps), CM.run s gh (.eitherL phi) q = R ∧ HoldsIs g phi v wr ∧ PsAt wr g s q ∧ CM.Ok s q ∧ 3 * CM.mu s q + 2 ≤ gh ∧ gh ≤ N ∧ Oly g w wr
set_option maxHeartbeats 4000000 in
set_option maxRecDepth 100000 in
theorem either_step {s : List UInt8} {n : Nat} (IH : ∀ m, m ≤ n → BothOk s m) : EitherOk s (n + 1) := fun p w g h hok hm => by
  have hlen := h.len
  unfold HoldsOut
  have hp1 := IH n (Nat.le_refl _) p w g h hok (by omega)
  obtain ⟨R, hR⟩ : ∃ R, CM.run s (n + 1) .either p = R := ⟨_, rfl⟩
  rw [hR]
  have hgl := h.at_.lt
  cases hr : CM.run s n .both p with
  | error e =>
    obtain ⟨a, x⟩ := e
    simp only [CM.run] at hR
    rw [hr] at hR
    have hp2 := Lib.hid (Out.no hp1 hr)
    replace hR := Lib.hid hR.symm
    clear h hok hp1 hr IH
    go_enter Tryz.func32, Tryz.ntmps32
    go_wp2_with (go_at_call 50; refine hp2.out.mono ?_; rintro e w3 ⟨rfl, hO3⟩)
    all_goals exact ⟨rfl, Out.err hR.out hO3⟩
  | ok fr =>
    obtain ⟨phi, q⟩ := fr
    simp only [CM.run] at hR
    rw [hr] at hR
    have hp2 := Lib.hid (Out.yes hp1 hr)
    obtain ⟨hl, hlt⟩ := CM.run_less s n _ _ _ _ hok hr
    have hlt := hlt rfl
    have hqok := Lib.hid hl.ok
    simp only at hR
    have hR0 := Lib.hid hR
    replace IH := Lib.hid IH
    clear h hok hp1 hr hR hl
    go_enter Tryz.func32, Tryz.ntmps32
    go_upto_block 0 with (go_at_call 50; refine hp2.out.mono ?_; rintro e w3 ⟨v, rfl, hH, hP, hO⟩)
    replace hP := Lib.hid hP
    replace hH := Lib.hid hH
    replace hO := Lib.hid hO
    go_wp2_with fail
    go_loopg [3] n (fun gh v wr => ∃ m, gh = m ∧ Hid (EitherR s g w R n m v wr))
    case atStart => exact ⟨n, rfl, Lib.hid ⟨phi, q, hR0.out, hH.out, hP.out, hqok.out, by omega, Nat.le_refl _, hO.out⟩⟩
    case round =>
      obtain ⟨m, hgm, hrel⟩ := hrel
      replace hgm := hgm.symm
      subst hgm
      obtain ⟨psi, r, hrun, hHr, hPr, hrok, hfu, hN, hOr⟩ := hrel.out
      clear hrel hP hH hO hqok hR0 hp2 hlt
      obtain ⟨k, rfl⟩ : ∃ k, m = k + 1 := ⟨m - 1, by omega⟩
      have hFr : Fit s r wr g := ⟨hlen, hrok.le, hPr⟩
      obtain ⟨ff, caps, rfl⟩ := hHr.shape
      simp only [CM.run] at hrun
      replace hOr := Lib.hid hOr
      replace hHr := Lib.hid hHr
      by_cases hi : r.pc.is 1 CM.orW = true
      · rw [if_pos hi] at hrun
        cases hn : r.next s with
        | error e =>
          obtain ⟨a, x⟩ := e
          rw [hn] at hrun
          have hnx := Lib.hid (is1_err hFr hi hn)
          replace hrun := Lib.hid hrun.symm
          clear hFr hPr hrok hi hn IH
          go_wp2_with (go_at_call 51; refine hnx.out.mono ?_; rintro e w5 ⟨rfl, hO5⟩)
          all_goals exact ⟨rfl, Out.err hrun.out (Only.trans hOr.out hO5)⟩
        | ok t =>
          rw [hn] at hrun
          simp only at hrun
          have hnx := Lib.hid (is1_ok hFr hi hn)
          obtain ⟨ht, htlt⟩ := CM.next_less hrok (CM.is_some hi) hn
          have hpt := fun w5 (hP : PsAt w5 g s t) => IH.out k (by omega) t w5 g ⟨hlen, ht.ok.le, hP⟩ ht.ok (by omega)
          cases hq : CM.run s k .both t with
          | error e =>
            obtain ⟨a, x⟩ := e
            rw [hq] at hrun
            have hp5 := Lib.hid (fun w5 (hP : PsAt w5 g s t) => Out.no (hpt w5 hP) hq)
            replace hrun := Lib.hid hrun.symm
            clear hFr hPr hrok hi hn IH hpt hq
            go_wp2_with (first
              | (go_at_call 51; refine hnx.out.mono ?_; rintro e w5 ⟨rfl, hP5, hO5⟩)
              | (go_at_call 50; refine (hp5.out _ hP5).mono ?_; rintro e w6 ⟨rfl, hO6⟩))
            all_goals exact ⟨rfl, Out.err hrun.out (Only.trans hOr.out (Only.trans hO5 hO6))⟩
          | ok br =>
            obtain ⟨chi, u⟩ := br
            rw [hq] at hrun
            simp only at hrun
            have hp5 := Lib.hid (fun w5 (hP : PsAt w5 g s t) => Out.yes (hpt w5 hP) hq)
            obtain ⟨hu, hult⟩ := CM.run_less s k _ _ _ _ ht.ok hq
            have hult := hult rfl
            have huok := Lib.hid hu.ok
            have hgl5 := Lib.hid (fun w5 (ho : Oly g wr w5) => Nat.lt_of_lt_of_le hPr.lt ho.size)
            replace hrun := Lib.hid hrun
            clear hFr hPr hrok hi hn hpt hq hu ht
            go_wp2_with (first
              | (go_at_call 51; refine hnx.out.mono ?_; rintro e w5 ⟨rfl, hP5, hO5⟩)
              | (go_at_call 50; refine (hp5.out _ hP5).mono ?_; rintro e w6 ⟨v, rfl, hH6, hP6, hO6⟩; obtain ⟨fg, caps2, rfl⟩ := hH6.shape; replace hH6 := Lib.hid hH6; replace hP6 := Lib.hid hP6))
            all_goals go_roundg k
            case measure => omega
            case rel =>
              have o6 : Oly g wr w6 := Only.trans hO5 hO6
              have hg6 := hgl5.out _ o6
              have oA : Oly g w6 ((w6.alloc (.cells #[.func (.func ff) #[] caps] 96)).alloc (.cells #[.func (.func fg) #[] caps2] 96)) := Only.alloc (Only.alloc (Only.refl _ w6) _) _
              have hA := (hHr.out.later o6).later oA
              have hB := hH6.out.later oA
              have hc1 : ((w6.alloc (.cells #[.func (.func ff) #[] caps] 96)).alloc (.cells #[.func (.func fg) #[] caps2] 96)).cell? ⟨w6.heap.size, 0, none⟩ = some (.func (.func ff) #[] caps) := ((Blk.new w6 96 [.func (.func ff) #[] caps]).alloc _).cell 0
              have hc2 : ((w6.alloc (.cells #[.func (.func ff) #[] caps] 96)).alloc (.cells #[.func (.func fg) #[] caps2] 96)).cell? ⟨w6.heap.size + 1, 0, none⟩ = some (.func (.func fg) #[] caps2) := by
                have := (Blk.new (w6.alloc (.cells #[.func (.func ff) #[] caps] 96)) 96 [.func (.func fg) #[] caps2]).cell 0
                rw [size_alloc] at this
                exact this
              exact ⟨k, rfl, Lib.hid ⟨_, u, hrun.out, HoldsIs.either hc1 (by simp; omega) (by omega) hA hc2 (by simp) (by omega) hB, (Blk.alloc (Blk.alloc hP6.out _) _), huok.out, by omega, by omega, Only.trans hOr.out (Only.trans o6 oA)⟩⟩
      · rw [if_neg hi] at hrun
        have hno := Lib.hid (is1_no hFr (by simpa using hi))
        replace hrun := Lib.hid hrun.symm
        replace hPr := Lib.hid hPr
        clear hFr hrok hi IH
        go_wp2_with (go_at_call 51; refine hno.out.mono ?_; rintro e w5 ⟨rfl, rfl⟩)
        all_goals go_ret
        all_goals exact Out.ok hrun.out hHr.out hPr.out hOr.out
/-- the parser is what the plain law says -/
theorem parser_ok (s : List UInt8) : ∀ n m, m ≤ n → PartOk s m ∧ BothOk s m ∧ EitherOk s m
  | 0, m, hm => by
    obtain rfl : m = 0 := by omega
    exact ⟨fun p w g _ _ h => absurd h (by omega), fun p w g _ _ h => absurd h (by omega), fun p w g _ _ h => absurd h (by omega)⟩
  | n + 1, m, hm => by
    have ih := parser_ok s n
    by_cases h : m = n + 1
    · subst h
      exact ⟨part_step (ih n (Nat.le_refl _)).1 (ih n (Nat.le_refl _)).2.2, both_step fun k hk => (ih k hk).1, either_step fun k hk => (ih k hk).2.1⟩
    · exact ih m (by omega)
end Go.Proofs.YtcjcflmnghhbaaaGreat
