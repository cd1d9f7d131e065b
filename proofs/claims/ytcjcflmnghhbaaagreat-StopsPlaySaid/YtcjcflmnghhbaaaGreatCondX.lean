/-
  cond.parser in memory; the loop ahead of a piece; of chapter 27.
  Conditions: as each theorem states them.
-/
import Derived.Test.YtcjcflmnghhbaaaGreatCondGw
import Derived.Test.YtcjcflmnghhbaaaGreatConvU
import Derived.StillTailTactics
import Derived.Deep.CutBlock
import Derived.Deep.DeepCutAuto
namespace Go.Proofs.YtcjcflmnghhbaaaGreat
open Go.RowKit
set_option linter.unusedVariables false
set_option linter.unusedSimpArgs false
open CM (Sv Pc Ps)
def psCells (s : List UInt8) (x : Pc) (a d : Nat) : List Value := [strV s, .int .i64 (a : Int), .int .i64 (x.kind : Int), .int .i64 (x.at_ : Int), .int .i64 x.n, strV x.s, .int .i64 (d : Int)]
/-- a parser in memory -/
def PsAt (w : World) (g : Nat) (s : List UInt8) (p : Ps) : Prop := Blk w g 94 (psCells s p.pc p.at_ p.deep)
theorem PsAt.facts {w : World} {g : Nat} {s : List UInt8} {p : Ps} (h : PsAt w g s p) : w.cell? ⟨g, 0, none⟩ = some (strV s) ∧ w.cell? ⟨g, 1, none⟩ = some (.int .i64 (p.at_ : Int)) ∧ w.cell? ⟨g, 2, none⟩ = some (.int .i64 (p.pc.kind : Int)) ∧ w.cell? ⟨g, 3, none⟩ = some (.int .i64 (p.pc.at_ : Int)) ∧
    w.cell? ⟨g, 4, none⟩ = some (.int .i64 p.pc.n) ∧ w.cell? ⟨g, 5, none⟩ = some (strV p.pc.s) ∧ w.cell? ⟨g, 6, none⟩ = some (.int .i64 (p.deep : Int)) := ⟨h.cell 0, h.cell 1, h.cell 2, h.cell 3, h.cell 4, h.cell 5, h.cell 6⟩
theorem PsAt.frees {w : World} {g : Nat} {s : List UInt8} {p : Ps} (h : PsAt w g s p) : w.frozen? ⟨g, 0, none⟩ = false ∧ w.frozen? ⟨g, 1, none⟩ = false ∧ w.frozen? ⟨g, 2, none⟩ = false ∧ w.frozen? ⟨g, 3, none⟩ = false ∧ w.frozen? ⟨g, 4, none⟩ = false ∧ w.frozen? ⟨g, 5, none⟩ = false ∧ w.frozen? ⟨g, 6, none⟩ = false :=
  ⟨h.free 0, h.free 1, h.free 2, h.free 3, h.free 4, h.free 5, h.free 6⟩
/-- nothing that was there has turned but the parser -/
abbrev Oly (g : Nat) (w w' : World) : Prop := Only (fun k => k = g) w w'
/-- what next answers -/
def NextIs (s : List UInt8) (g : Nat) (p : Ps) (w : World) (e : Ending) (w' : World) : Prop :=
  match p.next s with
  | .error (a, x) => e = .panicked [broken (a : Int) x] ∧ Oly g w w'
  | .ok q => e = .returned (.tuple #[]) ∧ PsAt w' g s q ∧ Oly g w w'
theorem PsAt.piece {w : World} {g : Nat} {s : List UInt8} {p : Ps} (h : PsAt w g s p) (x : Pc) :
    PsAt ((((w.setCell ⟨g, 2, none⟩ (.int .i64 (x.kind : Int))).setCell ⟨g, 3, none⟩ (.int .i64 (x.at_ : Int))).setCell ⟨g, 4, none⟩ (.int .i64 x.n)).setCell ⟨g, 5, none⟩ (strV x.s)) g s ⟨x, p.at_, p.deep⟩ :=
  (((Blk.set h 2 _).set 3 _).set 4 _).set 5 _
theorem PsAt.at {w : World} {g : Nat} {s : List UInt8} {p : Ps} (h : PsAt w g s p) (a : Nat) : PsAt (w.setCell ⟨g, 1, none⟩ (.int .i64 (a : Int))) g s ⟨p.pc, a, p.deep⟩ := Blk.set h 1 _
theorem PsAt.dp {w : World} {g : Nat} {s : List UInt8} {p : Ps} (h : PsAt w g s p) (d : Nat) : PsAt (w.setCell ⟨g, 6, none⟩ (.int .i64 (d : Int))) g s ⟨p.pc, p.at_, d⟩ := Blk.set h 6 _
theorem Oly.set {g : Nat} {w w' : World} (h : Oly g w w') (j : Nat) (v : Value) : Oly g w (w'.setCell ⟨g, j, none⟩ v) := Only.setCell h (p := ⟨g, j, none⟩) rfl v
theorem Oly.piece {g : Nat} {w w' : World} (h : Oly g w w') (v2 v3 v4 v5 : Value) : Oly g w ((((w'.setCell ⟨g, 2, none⟩ v2).setCell ⟨g, 3, none⟩ v3).setCell ⟨g, 4, none⟩ v4).setCell ⟨g, 5, none⟩ v5) := (((h.set 2 v2).set 3 v3).set 4 v4).set 5 v5
namespace CM
theorem skip_blank {s : List UInt8} {k : Nat} (h : k < s.length) (hb : s[k] = 32) : skip s k = skip s (k + 1) := by
  unfold skip
  rw [List.drop_eq_getElem_cons h, List.takeWhile_cons, if_pos (by unfold blank; rw [hb]; rfl), List.length_cons]; omega
theorem skip_no {s : List UInt8} {k : Nat} (h : k < s.length) (hb : s[k] ≠ 32) : skip s k = k := by
  unfold skip
  rw [List.drop_eq_getElem_cons h, List.takeWhile_cons, if_neg (by unfold blank; simpa using hb)]; rfl
theorem skip_end {s : List UInt8} {k : Nat} (h : s.length ≤ k) : skip s k = k := by
  unfold skip
  rw [List.drop_eq_nil_of_le h]; rfl
def skipw (s : List UInt8) (a : Nat) : Nat := a + ((s.drop a).takeWhile low).length
theorem skipw_low {s : List UInt8} {k : Nat} (h : k < s.length) (hb : low s[k] = true) : skipw s k = skipw s (k + 1) := by
  unfold skipw
  rw [List.drop_eq_getElem_cons h, List.takeWhile_cons, if_pos hb, List.length_cons]; omega
theorem skipw_no {s : List UInt8} {k : Nat} (h : k < s.length) (hb : low s[k] = false) : skipw s k = k := by
  unfold skipw
  rw [List.drop_eq_getElem_cons h, List.takeWhile_cons, if_neg (by rw [hb]; simp)]; rfl
theorem skipw_end {s : List UInt8} {k : Nat} (h : s.length ≤ k) : skipw s k = k := by
  unfold skipw
  rw [List.drop_eq_nil_of_le h]; rfl
theorem skipw_le (s : List UInt8) {k : Nat} (h : k ≤ s.length) : k ≤ skipw s k ∧ skipw s k ≤ s.length := by
  unfold skipw
  have := (List.takeWhile_prefix low (l := s.drop k)).length_le
  simp only [List.length_drop] at this
  omega
theorem skipw_word (s : List UInt8) (k : Nat) : (s.drop k).take (skipw s k - k) = (s.drop k).takeWhile low := by
  unfold skipw
  rw [Nat.add_sub_cancel_left]
  exact (List.prefix_iff_eq_take.1 (List.takeWhile_prefix low)).symm
theorem next_eq {s : List UInt8} {p : Ps} {b : Nat} (h : skip s p.at_ = b) : p.next s = match pieceS s b (s.drop b) with | .error e => .error e | .ok (x, c) => .ok ⟨x, c, p.deep⟩ := by
  unfold Ps.next nextS
  rw [h]
  cases pieceS s b (s.drop b) with
  | error e => rfl
  | ok x => rfl
/-- the signs, the longer ones first -/
def sgs : List (List UInt8) := [[33, 61], [60, 61], [62, 61], [61], [60], [62]]
theorem sign_hits (t : List UInt8) : signS t = if Lib.hasPrefix t [33, 61] then [33, 61] else if Lib.hasPrefix t [60, 61] then [60, 61] else if Lib.hasPrefix t [62, 61] then [62, 61] else if Lib.hasPrefix t [61] then [61] else if Lib.hasPrefix t [60] then [60] else if Lib.hasPrefix t [62] then [62] else [] := by
  unfold signS Lib.hasPrefix
  match t with
  | [] => rfl
  | [a] =>
    by_cases h1 : a = 61
    · subst h1; rfl
    by_cases h2 : a = 60
    · subst h2; rfl
    by_cases h3 : a = 62
    · subst h3; rfl
    have e1 : ¬ (61 : UInt8) = a := fun e => h1 e.symm
    have e2 : ¬ (60 : UInt8) = a := fun e => h2 e.symm
    have e3 : ¬ (62 : UInt8) = a := fun e => h3 e.symm
    simp only [List.isPrefixOf, Bool.and_true, Bool.and_false, Bool.false_eq_true, if_false]
    split <;> simp_all
  | a :: b :: r =>
    by_cases h1 : a = 61
    · subst h1; simp [List.isPrefixOf]
    have e1 : ¬ (61 : UInt8) = a := fun e => h1 e.symm
    by_cases h5 : b = 61
    · subst h5
      by_cases h4 : a = 33
      · subst h4; rfl
      by_cases h2 : a = 60
      · subst h2; rfl
      by_cases h3 : a = 62
      · subst h3; rfl
      have e2 : ¬ (60 : UInt8) = a := fun e => h2 e.symm
      have e3 : ¬ (62 : UInt8) = a := fun e => h3 e.symm
      have e4 : ¬ (33 : UInt8) = a := fun e => h4 e.symm
      simp only [List.isPrefixOf, Bool.and_true]
      split <;> simp_all
    · have e5 : ¬ (61 : UInt8) = b := fun e => h5 e.symm
      by_cases h2 : a = 60
      · subst h2; simp only [List.isPrefixOf, Bool.and_true]; split <;> simp_all
      by_cases h3 : a = 62
      · subst h3; simp only [List.isPrefixOf, Bool.and_true]; split <;> simp_all
      have e2 : ¬ (60 : UInt8) = a := fun e => h2 e.symm
      have e3 : ¬ (62 : UInt8) = a := fun e => h3 e.symm
      simp only [List.isPrefixOf, Bool.and_true]
      split <;> simp_all
theorem sgs_get {k : Nat} (h : k < 6) (f : List UInt8 → Value) : (sgs.map f)[k]? = some (f (sgs.getD k [])) := by
  rcases (by omega : k = 0 ∨ k = 1 ∨ k = 2 ∨ k = 3 ∨ k = 4 ∨ k = 5) with rfl | rfl | rfl | rfl | rfl | rfl <;> rfl
theorem sgs_len {k : Nat} (h : k < 6) : 1 ≤ (sgs.getD k []).length ∧ (sgs.getD k []).length ≤ 2 := by
  rcases (by omega : k = 0 ∨ k = 1 ∨ k = 2 ∨ k = 3 ∨ k = 4 ∨ k = 5) with rfl | rfl | rfl | rfl | rfl | rfl <;> decide
theorem sign_found {t : List UInt8} {k : Nat} (h : k < 6) (hno : ∀ j, j < k → Lib.hasPrefix t (sgs.getD j []) = false) (hy : Lib.hasPrefix t (sgs.getD k []) = true) : signS t = sgs.getD k [] := by
  rw [sign_hits]
  have h0 := hno 0
  have h1 := hno 1
  have h2 := hno 2
  have h3 := hno 3
  have h4 := hno 4
  simp only [sgs, List.getD_cons_zero, List.getD_cons_succ] at h0 h1 h2 h3 h4
  rcases (by omega : k = 0 ∨ k = 1 ∨ k = 2 ∨ k = 3 ∨ k = 4 ∨ k = 5) with rfl | rfl | rfl | rfl | rfl | rfl
  all_goals simp only [sgs, List.getD_cons_zero, List.getD_cons_succ] at hy ⊢
  · rw [if_pos hy]
  · rw [if_neg (by rw [h0 (by omega)]; simp), if_pos hy]
  · rw [if_neg (by rw [h0 (by omega)]; simp), if_neg (by rw [h1 (by omega)]; simp), if_pos hy]
  · rw [if_neg (by rw [h0 (by omega)]; simp), if_neg (by rw [h1 (by omega)]; simp), if_neg (by rw [h2 (by omega)]; simp), if_pos hy]
  · rw [if_neg (by rw [h0 (by omega)]; simp), if_neg (by rw [h1 (by omega)]; simp), if_neg (by rw [h2 (by omega)]; simp), if_neg (by rw [h3 (by omega)]; simp), if_pos hy]
  · rw [if_neg (by rw [h0 (by omega)]; simp), if_neg (by rw [h1 (by omega)]; simp), if_neg (by rw [h2 (by omega)]; simp), if_neg (by rw [h3 (by omega)]; simp), if_neg (by rw [h4 (by omega)]; simp), if_pos hy]
theorem sign_none {t : List UInt8} (hno : ∀ j, j < 6 → Lib.hasPrefix t (sgs.getD j []) = false) : signS t = [] := by
  rw [sign_hits]
  have h0 := hno 0 (by omega)
  have h1 := hno 1 (by omega)
  have h2 := hno 2 (by omega)
  have h3 := hno 3 (by omega)
  have h4 := hno 4 (by omega)
  have h5 := hno 5 (by omega)
  simp only [sgs, List.getD_cons_zero, List.getD_cons_succ] at h0 h1 h2 h3 h4 h5
  rw [h0, h1, h2, h3, h4, h5]
  rfl
theorem low_is (c : UInt8) : low c = true ↔ 97 ≤ c.toNat ∧ c.toNat ≤ 122 := by unfold low; simp
theorem low_not {c : UInt8} (h : low c = false) : c.toNat < 97 ∨ 122 < c.toNat := by
  unfold low at h; simp at h; omega
end CM
theorem NextIs.ok {s : List UInt8} {g : Nat} {p q : Ps} {w w' : World} (h : p.next s = .ok q) (hP : PsAt w' g s q) (hO : Oly g w w') : NextIs s g p w (.returned (.tuple #[])) w' := by
  unfold NextIs; rw [h]; exact ⟨rfl, hP, hO⟩
theorem NextIs.err {s : List UInt8} {g a : Nat} {x : Int} {p : Ps} {w w' : World} (h : p.next s = .error (a, x)) (hO : Oly g w w') : NextIs s g p w (.panicked [broken a x]) w' := by
  unfold NextIs; rw [h]; exact ⟨rfl, hO⟩
set_option maxHeartbeats 4000000 in
set_option maxRecDepth 100000 in
theorem next_any (s : List UInt8) (hs : s.length ≤ 4096) (p : Ps) (hp : p.at_ ≤ s.length) (w : World) (g : Nat) (h : PsAt w g s p) : Calls Tryz.prog 31 #[.pointer (some ⟨g, 0, none⟩)] w (NextIs s g p w) := by
  obtain ⟨b, hb⟩ : ∃ b, CM.skip s p.at_ = b := ⟨_, rfl⟩
  go_enter Tryz.func31, Tryz.ntmps31
  go_upto_block 0 with fail
  go_cut [] from 12 to 40 (fun wx => PsAt wx g s ⟨p.pc, b, p.deep⟩ ∧ Oly g w wx)
  case first => --DONE
    go_wp2_with fail
    go_loopg [] (s.length - p.at_) (fun gh wr => ∃ k : Nat, gh = s.length - k ∧ k ≤ s.length ∧ Hid (CM.skip s k = b) ∧ Hid (PsAt wr g s ⟨p.pc, k, p.deep⟩) ∧ Hid (Oly g w wr))
    case atStart => exact ⟨p.at_, rfl, hp, Lib.hid hb, Lib.hid h, Lib.hid (Only.refl _ _)⟩
    case round =>
      clear h hb
      obtain ⟨k, rfl, hk, hsk, hP, hO⟩ := hrel
      obtain ⟨c0, c1, _⟩ := hP.out.facts
      simp only at c1
      have f1 := hP.out.frees.2.1
      have hgl := hP.out.lt
      by_cases hlt : k < s.length
      · have hby := ba_at hlt (by rw [ba_size]; exact hlt)
        have q0 : decide ((k : Int) < s.length) = true := by rw [decide_eq_true_eq]; omega
        by_cases h32 : s[k] = 32
        · have q1 : (((⟨s.toArray⟩ : ByteArray)[k]'(by rw [ba_size]; exact hlt)).toNat : Int) = 32 := by rw [hby, h32]; rfl
          have hsk2 := Lib.hid ((CM.skip_blank hlt h32).symm.trans hsk.out)
          have hP2 := Lib.hid (hP.out.set 1 (.int .i64 ((k + 1 : Nat) : Int)))
          clear hby h32 hsk
          go_wp2_with (go_quiet (fail))
          all_goals go_roundg (s.length - (k + 1))
          case measure => omega
          case rel => exact ⟨k + 1, rfl, by omega, hsk2, hP2, Lib.hid ((hO.out.drewN _).setCell (p := ⟨g, 1, none⟩) rfl _)⟩
        · have q1 : ((((⟨s.toArray⟩ : ByteArray)[k]'(by rw [ba_size]; exact hlt)).toNat : Int) == 32) = false := by
            rw [hby]; simp only [beq_eq_false_iff_ne, ne_eq]; intro e; exact h32 (UInt8.toNat_inj.1 (by rw [show (32 : UInt8).toNat = 32 from rfl]; omega))
          have hkb := (CM.skip_no hlt h32).symm.trans hsk.out
          subst hkb
          clear hby h32 hsk
          go_wp2_with (go_quiet (fail))
          go_meet
          exact ⟨hP.out, hO.out.drewN _⟩
      · have q0 : decide ((k : Int) < s.length) = false := by rw [decide_eq_false_iff_not]; omega
        have hkb := (CM.skip_end (s := s) (k := k) (by omega)).symm.trans hsk.out
        subst hkb
        clear hsk
        go_wp2_with (go_quiet (fail))
        go_meet
        exact ⟨hP.out, hO.out.drewN _⟩
  case rest =>
    obtain ⟨hP, hO⟩ := hcut
    have hn := CM.next_eq hb
    have hbl := (CM.skip_le s p.at_ hp)
    rw [hb] at hbl
    obtain ⟨w1, hw1⟩ : ∃ w1 : World, w1 = wc := ⟨_, rfl⟩
    subst hw1
    obtain ⟨c0, c1, c2, c3, c4, c5, c6⟩ := hP.facts
    simp only at c1 c2 c3 c4 c5 c6
    obtain ⟨f0, f1, f2, f3, f4, f5, f6⟩ := hP.frees
    have hgl := hP.lt
    clear h hb
    replace hP := Lib.hid hP
    replace hO := Lib.hid hO
    by_cases hlt : b < s.length
    case neg =>
      obtain rfl : b = s.length := by omega
      rw [List.drop_eq_nil_of_le (Nat.le_refl _)] at hn
      simp only [CM.pieceS] at hn
      replace hn := Lib.hid hn
      go_wp2_with fail
      all_goals (first | go_end0 | refine bodyPost_ret (results_none rfl _ _ _) rfl ?_)
      all_goals exact NextIs.ok hn.out (hP.out.piece ⟨0, s.length, 0, []⟩) (hO.out.piece _ _ _ _)
    case pos =>
    have hd : s.drop b = s[b] :: s.drop (b + 1) := List.drop_eq_getElem_cons hlt
    have hby := ba_at hlt (by rw [ba_size]; exact hlt)
    obtain ⟨B, hB⟩ : ∃ B : Nat, (((⟨s.toArray⟩ : ByteArray)[b]'(by rw [ba_size]; exact hlt)).toNat : Nat) = B := ⟨_, rfl⟩
    have hB' : s[b].toNat = B := by rw [← hB, hby]
    have qe : ((b : Int) == (s.length : Int)) = false := by simp only [beq_eq_false_iff_ne, ne_eq]; omega
    by_cases hlow : CM.low s[b] = true
    · have hl2 := (CM.low_is _).1 hlow --DONE
      rw [hB'] at hl2
      have ql1 : decide ((97 : Int) ≤ B) = true := by rw [decide_eq_true_eq]; omega
      have ql2 : decide ((B : Int) ≤ 122) = true := by rw [decide_eq_true_eq]; omega
      obtain ⟨c, hc⟩ : ∃ c, CM.skipw s b = c := ⟨_, rfl⟩
      obtain ⟨hc1, hc2⟩ := CM.skipw_le s (Nat.le_of_lt hlt)
      have hwd := CM.skipw_word s b
      rw [hc] at hc1 hc2 hwd
      have hn2 : p.next s = if CM.isWord ((s.drop b).take (c - b)) = true then .ok ⟨⟨1, b, 0, (s.drop b).take (c - b)⟩, c, p.deep⟩ else .error (b, 30) := by
        rw [hn, hwd, hd]
        simp only [CM.pieceS]
        rw [if_pos hlow]
        have e : b + ((s[b] :: s.drop (b + 1)).takeWhile CM.low).length = c := by rw [← hd, ← hc]; rfl
        rw [e]
        by_cases hw : CM.isWord ((s[b] :: s.drop (b + 1)).takeWhile CM.low) = true
        · simp only [if_pos hw]
        · simp only [if_neg hw]
      replace hn2 := Lib.hid hn2
      replace hc := Lib.hid hc
      clear hn hd hby hB' hlow hwd
      go_upto_block 5 with fail
      go_cut [] from 96 to 142 (fun wx => PsAt wx g s ⟨p.pc, c, p.deep⟩ ∧ Oly g w wx)
      case first =>
        clear c0 c1 c2 c3 c4 c5 c6 f0 f1 f2 f3 f4 f5 f6 hgl
        go_wp2_with fail
        go_loopg [] (s.length - b) (fun gh wr => ∃ k : Nat, gh = s.length - k ∧ k ≤ s.length ∧ Hid (CM.skipw s k = c) ∧ Hid (PsAt wr g s ⟨p.pc, k, p.deep⟩) ∧ Hid (Oly g w wr))
        case atStart => exact ⟨b, rfl, by omega, hc, hP, hO⟩
        case round =>
          clear hP hO hc
          obtain ⟨k, rfl, hk, hsk, hP, hO⟩ := hrel
          obtain ⟨c0, c1, _⟩ := hP.out.facts
          simp only at c1
          have f1 := hP.out.frees.2.1
          have hgl := hP.out.lt
          by_cases hlk : k < s.length
          · have hby := ba_at hlk (by rw [ba_size]; exact hlk)
            have q0 : decide ((k : Int) < s.length) = true := by rw [decide_eq_true_eq]; omega
            obtain ⟨D, hD⟩ : ∃ D : Nat, (((⟨s.toArray⟩ : ByteArray)[k]'(by rw [ba_size]; exact hlk)).toNat : Nat) = D := ⟨_, rfl⟩
            have hD' : s[k].toNat = D := by rw [← hD, hby]
            by_cases hl : CM.low s[k] = true
            · have hl3 := (CM.low_is _).1 hl
              rw [hD'] at hl3
              have q1 : decide ((97 : Int) ≤ D) = true := by rw [decide_eq_true_eq]; omega
              have q2 : decide ((D : Int) ≤ 122) = true := by rw [decide_eq_true_eq]; omega
              have hsk2 := Lib.hid ((CM.skipw_low hlk hl).symm.trans hsk.out)
              have hP2 := Lib.hid (hP.out.at (k + 1))
              clear hby hl hsk hD'
              go_wp2_with (go_quiet (fail))
              all_goals go_roundg (s.length - (k + 1))
              case measure => omega
              case rel => exact ⟨k + 1, rfl, by omega, hsk2, hP2, Lib.hid (Oly.set (hO.out.drewN _) 1 _)⟩
            · have hkb := (CM.skipw_no hlk (by simpa using hl)).symm.trans hsk.out
              subst hkb
              have hl3 := CM.low_not (by simpa using hl)
              rw [hD'] at hl3
              rcases hl3 with hl3 | hl3
              · have q1 : decide ((97 : Int) ≤ D) = false := by rw [decide_eq_false_iff_not]; omega
                clear hby hl hsk hD'
                go_wp2_with (go_quiet (fail))
                go_meet
                exact ⟨hP.out, hO.out.drewN _⟩
              · have q1 : decide ((97 : Int) ≤ D) = true := by rw [decide_eq_true_eq]; omega
                have q2 : decide ((D : Int) ≤ 122) = false := by rw [decide_eq_false_iff_not]; omega
                clear hby hl hsk hD'
                go_wp2_with (go_quiet (fail))
                go_meet
                exact ⟨hP.out, hO.out.drewN _⟩
          · have q0 : decide ((k : Int) < s.length) = false := by rw [decide_eq_false_iff_not]; omega
            have hkb := (CM.skipw_end (s := s) (k := k) (by omega)).symm.trans hsk.out
            subst hkb
            clear hsk
            go_wp2_with (go_quiet (fail))
            go_meet
            exact ⟨hP.out, hO.out.drewN _⟩
      case rest =>
        clear c0 c1 c2 c3 c4 c5 c6 f0 f1 f2 f3 f4 f5 f6 hgl hP hO
        obtain ⟨hP, hO⟩ := hcut
        obtain ⟨w2, hw2⟩ : ∃ w2 : World, w2 = wc := ⟨_, rfl⟩
        subst hw2
        obtain ⟨c0, c1, c2, c3, c4, c5, c6⟩ := hP.facts
        simp only at c1 c2 c3 c4 c5 c6
        obtain ⟨f0, f1, f2, f3, f4, f5, f6⟩ := hP.frees
        have hgl := hP.lt
        replace hP := Lib.hid hP
        replace hO := Lib.hid hO
        have hx : (⟨s.toArray⟩ : ByteArray).extract b c = ⟨((s.drop b).take (c - b)).toArray⟩ := ext_list s b c
        have hiw := Lib.hid (fun W => isWord_any ((s.drop b).take (c - b)) W)
        generalize (s.drop b).take (c - b) = wd at *
        go_upto_region 17 with fail
        go_still_tail 13, (by kernel_rfl)
        change wpList _ _ _ _ _ w2.drew
        have hP3 := Lib.hid (Blk.drew (hP.out.piece ⟨1, b, 0, wd⟩))
        have hO3 := Lib.hid (Only.drew (Oly.piece hO.out (.int .i64 1) (.int .i64 (b : Int)) (.int .i64 0) (strV wd)))
        have hfl := Lib.hid (fun W => fail_any (b : Int) 30 W)
        have hs0 : (0 : Int) ≤ b := by omega
        have hs1 : (b : Int) ≤ c := by omega
        have hs2 : (c : Int) ≤ s.length := by omega
        replace hn2 := hn2.out
        by_cases hw : CM.isWord wd = true
        · rw [if_pos hw] at hn2
          rw [hw] at hiw
          replace hn2 := Lib.hid hn2
          replace hw := Lib.hid hw
          go_wp2_with (go_at_call 45; refine (hiw.out _).mono ?_; rintro e w4 ⟨rfl, hb4⟩)
          all_goals (first | go_end0 | refine bodyPost_ret (results_none rfl _ _ _) rfl ?_)
          all_goals exact NextIs.ok hn2.out (Blk.below hP3.out hb4) (Only.trans hO3.out (Only.of_below hb4))
        · have hw' : CM.isWord wd = false := by simpa using hw
          rw [if_neg hw] at hn2
          rw [hw'] at hiw
          replace hn2 := Lib.hid hn2
          replace hw := Lib.hid hw
          replace hw' := Lib.hid hw'
          go_wp2_with (first
            | (go_at_call 45; refine (hiw.out _).mono ?_; rintro e w4 ⟨rfl, hb4⟩)
            | (go_at_call 46; refine (hfl.out _).mono ?_; rintro e w5 ⟨rfl, hw5⟩; subst hw5))
          all_goals exact ⟨rfl, NextIs.err hn2.out (Only.trans hO3.out (Only.of_below hb4))⟩
    have hlow' : CM.low s[b] = false := by simpa using hlow
    have hl3 := CM.low_not hlow'
    rw [hB'] at hl3
    have hpi : p.next s = match (if dig s[b] = true then (let N := numS s b 2147483648; if N.2.2 = 0 then .ok ((⟨2, b, N.1, []⟩ : Pc), N.2.1.toNat) else .error (b, N.2.2)) else if s[b] = 34 then (let U := unquoteS s b; if U.2.2 = 0 then .ok (⟨3, b, 0, U.1⟩, U.2.1.toNat) else .error (b, U.2.2))
        else if s[b] = 40 ∨ s[b] = 41 then .ok (⟨5, b, 0, [s[b]]⟩, b + 1) else if CM.signS (s.drop b) = [] then .error (b, 9) else .ok (⟨4, b, 0, CM.signS (s.drop b)⟩, b + (CM.signS (s.drop b)).length) : Except CM.Er (Pc × Nat)) with | .error e => .error e | .ok (x, c) => .ok ⟨x, c, p.deep⟩ := by
      rw [hn, hd]
      simp only [CM.pieceS]
      rw [if_neg hlow]
    clear hn
    have hl4 : ¬ (97 ≤ B ∧ B ≤ 122) := by omega
    by_cases hdg : dig s[b] = true
    · rw [if_pos hdg] at hpi --DONE
      have hd2 : 48 ≤ B ∧ B ≤ 57 := by unfold dig at hdg; rw [hB'] at hdg; simpa using hdg
      have qa : decide ((97 : Int) ≤ B) = false := by rw [decide_eq_false_iff_not]; omega
      have qb : decide ((48 : Int) ≤ B) = true := by rw [decide_eq_true_eq]; omega
      have qc : decide ((B : Int) ≤ 57) = true := by rw [decide_eq_true_eq]; omega
      clear hl3 hl4 hd hby hB' hlow hlow' hdg
      obtain ⟨c2, W2, hcv, hb2, hr2, hl2⟩ := conv_bytes (P := Tryz.prog) w1 9 23 5 s Tryz.underlying9 Tryz.underlying23 Tryz.underlying5
      have hnm : Calls Tryz.prog 47 #[.slice (some ⟨w1.heap.size, 0, none⟩) s.length c2, .int .i64 b, .int .i64 2147483648] W2 fun e w' => e = .returned (.tuple #[.int .i64 (numS s b 2147483648).1, .int .i64 (numS s b 2147483648).2.1, .int .i64 (numS s b 2147483648).2.2]) ∧ W2 = w' := num_in (some ⟨w1.heap.size, 0, none⟩) c2 s b 2147483648 W2 (by omega) (by omega) (by omega) (fun _ => ⟨_, _, rfl, hr2⟩)
      have hrg := numS_range s b 2147483648
      obtain ⟨⟨v, t, x⟩, hN⟩ : ∃ N, numS s b 2147483648 = N := ⟨_, rfl⟩
      rw [hN] at hnm hrg hpi
      simp only at hnm hrg hpi
      have hP2 : PsAt W2 g s ⟨p.pc, b, p.deep⟩ := Blk.below hP.out hb2
      have hO2 := Lib.hid (Only.trans hO.out (Only.of_below hb2))
      obtain ⟨d0, d1, d2, d3, d4, d5, d6⟩ := hP2.facts
      simp only at d1 d2 d3 d4 d5 d6
      obtain ⟨e0, e1, e2, e3, e4, e5, e6⟩ := hP2.frees
      have hgl2 := hP2.lt
      replace hP2 := Lib.hid hP2
      replace hnm := Lib.hid hnm
      clear hr2 hN hb2 hO hP
      by_cases hx : x = 0
      · subst hx
        obtain ⟨c, rfl, hc1, hc2⟩ := hrg rfl
        simp only [if_true, Int.toNat_natCast] at hpi
        have hP3 := Lib.hid ((hP2.out.at c).piece ⟨2, b, v, []⟩)
        replace hpi := Lib.hid hpi
        clear hrg
        go_wp2_with (go_at_call 47; refine hnm.out.mono ?_; rintro e w4 ⟨rfl, rfl⟩)
        all_goals (first | go_end0 | refine bodyPost_ret (results_none rfl _ _ _) rfl ?_)
        all_goals exact NextIs.ok hpi.out hP3.out (Oly.piece (Oly.set hO2.out _ _) _ _ _ _)
      · have q6 : (x != 0) = true := by simpa using hx
        rw [if_neg hx] at hpi
        have hfl := Lib.hid (fun W => fail_any (b : Int) x W)
        replace hpi := Lib.hid hpi
        clear hrg
        go_wp2_with (first
          | (go_at_call 47; refine hnm.out.mono ?_; rintro e w4 ⟨rfl, rfl⟩)
          | (go_at_call 46; refine (hfl.out _).mono ?_; rintro e w5 ⟨rfl, hw5⟩; subst hw5))
        all_goals exact ⟨rfl, NextIs.err hpi.out hO2.out⟩
    rw [if_neg hdg] at hpi
    have hdn : B < 48 ∨ 57 < B := by
      have : ¬ (48 ≤ B ∧ B ≤ 57) := fun h => hdg (by unfold dig; rw [hB']; simpa using h)
      omega
    have qa : decide ((48 : Int) ≤ B) = true → decide ((B : Int) ≤ 57) = false := by
      intro h
      rw [decide_eq_true_eq] at h
      rw [decide_eq_false_iff_not]; omega
    have qw : decide ((97 : Int) ≤ B) = true → decide ((B : Int) ≤ 122) = false := by
      intro h
      rw [decide_eq_true_eq] at h
      rw [decide_eq_false_iff_not]; omega
    by_cases h34 : s[b] = 34
    · rw [if_pos h34] at hpi --DONE
      obtain rfl : B = 34 := by rw [← hB', h34]; rfl
      have huq := unquote_at s (by omega) b hlt h34 w1
      have hrg := unquote_range s b
      obtain ⟨⟨U, t, x⟩, hU⟩ : ∃ N, unquoteS s b = N := ⟨_, rfl⟩
      rw [hU] at huq hrg hpi
      simp only at huq hrg hpi
      clear hl3 hl4 hd hby hB' hlow hlow' hdg qa qw hdn h34 hU
      have hP2 := Lib.hid (fun (w2 : World) (hb : Below w1.heap.size w1 w2) => (Blk.below hP.out hb : PsAt w2 g s ⟨p.pc, b, p.deep⟩))
      have hO2 := Lib.hid (fun (w2 : World) (hb : Below w1.heap.size w1 w2) => Only.trans hO.out (Only.of_below hb))
      replace huq := Lib.hid huq
      by_cases hx : x = 0
      · subst hx
        obtain ⟨c, rfl, hc1, hc2⟩ := hrg rfl
        simp only [if_true, Int.toNat_natCast] at hpi
        replace hpi := Lib.hid hpi
        clear hrg
        go_wp2_with (go_at_call 48; refine huq.out.mono ?_; rintro e w2 ⟨v, rfl, hown, hb2⟩; have hcv := conv_line hown; have hP3 : PsAt w2 g s ⟨p.pc, b, p.deep⟩ := hP2.out _ hb2; have hO3 := hO2.out _ hb2; obtain ⟨d0, d1, d2, d3, d4, d5, d6⟩ := hP3.facts; simp only at d1 d2 d3 d4 d5 d6; obtain ⟨e0, e1, e2, e3, e4, e5, e6⟩ := hP3.frees; have hgl2 := hP3.lt; replace hP3 := Lib.hid ((hP3.at c).piece ⟨3, b, 0, U⟩); replace hO3 := Lib.hid hO3; clear hown hb2)
        all_goals (first | go_end0 | refine bodyPost_ret (results_none rfl _ _ _) rfl ?_)
        all_goals exact NextIs.ok hpi.out hP3.out (Oly.piece (Oly.set hO3.out _ _) _ _ _ _)
      · have q6 : (x != 0) = true := by simpa using hx
        rw [if_neg hx] at hpi
        have hfl := Lib.hid (fun W => fail_any (b : Int) x W)
        replace hpi := Lib.hid hpi
        clear hrg
        go_wp2_with (first
          | (go_at_call 48; refine huq.out.mono ?_; rintro e w2 ⟨v, rfl, hown, hb2⟩)
          | (go_at_call 46; refine (hfl.out _).mono ?_; rintro e w5 ⟨rfl, hw5⟩; subst hw5))
        all_goals exact ⟨rfl, NextIs.err hpi.out (hO2.out _ hb2)⟩
    rw [if_neg h34] at hpi
    have h34' : B ≠ 34 := fun e => h34 (UInt8.toNat_inj.1 (by rw [hB', e]; rfl))
    have qq : ((B : Int) == 34) = false := by simp only [beq_eq_false_iff_ne, ne_eq]; omega
    by_cases hbr : s[b] = 40 ∨ s[b] = 41
    · rw [if_pos hbr] at hpi --DONE
      have hbr' : B = 40 ∨ B = 41 := by rcases hbr with h | h <;> rw [← hB', h] <;> simp
      have hx : (⟨s.toArray⟩ : ByteArray).extract b (b + 1) = ⟨[s[b]].toArray⟩ := by
        rw [ext_list, hd, Nat.add_sub_cancel_left]
        rfl
      generalize s[b] = cc at *
      clear hl3 hl4 hd hby hB' hlow hlow' hdg qa qw hdn h34 hbr
      have hs0 : (0 : Int) ≤ b := by omega
      have hs1 : (b : Int) ≤ (b : Int) + 1 := by omega
      have hs2 : (b : Int) + 1 ≤ s.length := by omega
      obtain ⟨W2, hW2⟩ : ∃ W2, w1.setCell ⟨g, 1, none⟩ (.int .i64 ((b : Int) + 1)) = W2 := ⟨_, rfl⟩
      have hP2 : PsAt W2 g s ⟨p.pc, b + 1, p.deep⟩ := hW2 ▸ hP.out.at (b + 1)
      have hO2 : Oly g w W2 := hW2 ▸ Oly.set hO.out 1 _
      obtain ⟨d0, d1, d2, d3, d4, d5, d6⟩ := hP2.facts
      simp only at d1 d2 d3 d4 d5 d6
      obtain ⟨e0, e1, e2, e3, e4, e5, e6⟩ := hP2.frees
      have d1' : W2.cell? ⟨g, 1, none⟩ = some (.int .i64 ((b : Int) + 1)) := d1
      have hgl2 := hP2.lt
      have hP3 := Lib.hid (Blk.drew (hP2.piece ⟨5, b, 0, [cc]⟩))
      have hO3 := Lib.hid (fun v1 v2 v3 v4 => Only.drew (Oly.piece hO2 v1 v2 v3 v4))
      replace hpi := Lib.hid hpi
      clear hP2 hO2 d1
      replace hW2 := Lib.hid hW2
      rcases hbr' with rfl | rfl
      all_goals
        go_upto_region 32 with fail
        rw [hW2.out]
        go_still_tail 13, (by kernel_rfl)
        change wpList _ _ _ _ _ W2.drew
        go_wp2_with fail
        all_goals (first | go_end0 | refine bodyPost_ret (results_none rfl _ _ _) rfl ?_)
        all_goals exact NextIs.ok hpi.out hP3.out (hO3.out _ _ _ _)
    rw [if_neg hbr] at hpi
    have hx : (⟨s.toArray⟩ : ByteArray).extract b s.length = ⟨(s.drop b).toArray⟩ := by rw [ext_list, List.take_of_length_le (by simp)]
    have hhp := Lib.hid (fun x W => (Tryz.strings_HasPrefix ⟨(s.drop b).toArray⟩ x W))
    have hsh := CM.sign_hits (s.drop b)
    generalize s.drop b = tt at *
    have hb4 : ¬ (B = 40 ∨ B = 41) := fun h => hbr (h.imp (fun e => UInt8.toNat_inj.1 (by rw [hB', e]; rfl)) (fun e => UInt8.toNat_inj.1 (by rw [hB', e]; rfl)))
    have qx : ((B : Int) == 40) = false := by simp only [beq_eq_false_iff_ne, ne_eq]; omega
    have qy : ((B : Int) == 41) = false := by simp only [beq_eq_false_iff_ne, ne_eq]; omega
    have hB2 : B < 48 ∨ (57 < B ∧ B < 97) ∨ 122 < B := by omega
    have hs0 : (0 : Int) ≤ b := by omega
    have hs1 : (b : Int) ≤ s.length := by omega
    clear hl4 hd hby hB' hlow hlow' hdg h34 hbr hdn qa qw hl3 h34' hb4
    go_upto_region 14 with fail
    go_cut [95] from 96 to 101 (fun s95 wx => s95 = .bool false ∧ w1 = wx)
    case first =>
      go_wp2_with fail
      all_goals go_meet
      all_goals exact ⟨(by first | rfl | (exact congrArg Value.bool (decide_eq_false (by omega))) | (simp; omega)), rfl⟩
    case rest =>
    obtain ⟨rfl, rfl⟩ := hcut
    go_upto_region 20 with fail
    go_cut [167] from 168 to 173 (fun s167 wx => s167 = .bool false ∧ w1 = wx)
    case first =>
      go_wp2_with fail
      all_goals go_meet
      all_goals exact ⟨(by first | rfl | (exact congrArg Value.bool (decide_eq_false (by omega))) | (simp; omega)), rfl⟩
    case rest =>
    obtain ⟨rfl, rfl⟩ := hcut
    have hb3 := Blk.new w1 9 (CM.sgs.map strV)
    have hP2 : PsAt (w1.alloc (.cells (CM.sgs.map strV).toArray 9)) g s ⟨p.pc, b, p.deep⟩ := Blk.alloc hP.out _
    have hO2 : Oly g w (w1.alloc (.cells (CM.sgs.map strV).toArray 9)) := Only.alloc hO.out _
    obtain ⟨W2, hW2⟩ : ∃ W2, w1.alloc (.cells (CM.sgs.map strV).toArray 9) = W2 := ⟨_, rfl⟩
    rw [hW2] at hb3 hP2 hO2
    have hW2' : w1.alloc (.cells #[.string ⟨#[33, 61]⟩, .string ⟨#[60, 61]⟩, .string ⟨#[62, 61]⟩, .string ⟨#[61]⟩, .string ⟨#[60]⟩, .string ⟨#[62]⟩] 9) = W2 := hW2
    clear hW2 hP hO
    replace hW2' := Lib.hid hW2'
    replace hb3 := Lib.hid hb3
    replace hP2 := Lib.hid hP2
    replace hO2 := Lib.hid hO2
    go_upto_block 3 with fail
    rw [hW2'.out]
    clear hW2' c0 c1 c2 c3 c4 c5 c6 f0 f1 f2 f3 f4 f5 f6
    generalize w1.heap.size = g2 at *
    have hfl := Lib.hid (fun W => fail_any (b : Int) 9 W)
    replace hpi := Lib.hid hpi
    replace hsh := Lib.hid hsh
    obtain ⟨c0, c1, c2, c3, c4, c5, c6⟩ := hP2.out.facts
    simp only at c1 c2 c3 c4 c5 c6
    obtain ⟨f0, f1, f2, f3, f4, f5, f6⟩ := hP2.out.frees
    have hgl2 := hP2.out.lt
    have hg2l := hb3.out.lt
    go_wp2_with fail
    go_loopg [65] 6 (fun gh i wr => ∃ k : Nat, gh = 6 - k ∧ i = .int .i64 (k : Int) ∧ k ≤ 6 ∧ Hid (∀ j, j < k → Lib.hasPrefix tt (CM.sgs.getD j []) = false) ∧ W2 = wr)
    case atStart => exact ⟨0, rfl, rfl, by omega, Lib.hid (fun j h => absurd h (by omega)), rfl⟩
    case round =>
      obtain ⟨k, rfl, rfl, hk, hno, rfl⟩ := hrel
      by_cases hk6 : k < 6
      · obtain ⟨X, hX⟩ : ∃ X, CM.sgs.getD k [] = X := ⟨_, rfl⟩
        have q0 : decide ((k : Int) < 6) = true := by rw [decide_eq_true_eq]; omega
        have ck : W2.cell? ⟨g2, k, none⟩ = some (strV X) := by
          rw [hb3.out.cell k, ← hX]
          exact CM.sgs_get hk6 strV
        have hXl := CM.sgs_len hk6
        rw [hX] at hXl
        have hh : ∀ W, Calls Tryz.prog 49 #[.string ⟨tt.toArray⟩, strV X] W fun e w' => e = .returned (.bool (Lib.hasPrefix tt X)) ∧ w' = W := fun W => by
          have := hhp.out ⟨X.toArray⟩ W
          simpa using this
        clear hhp
        by_cases hq : Lib.hasPrefix tt X = true
        · have hsg := CM.sign_found hk6 hno.out (by rw [hX]; exact hq)
          rw [hX] at hsg
          have hpi2 := hpi.out
          rw [hsg, if_neg (by intro e; rw [e] at hXl; simp at hXl)] at hpi2
          have hP3 := Lib.hid ((hP2.out.at (b + X.length)).piece ⟨4, b, 0, X⟩)
          have hO3 := Lib.hid (fun v0 v1 v2 v3 v4 => Oly.piece (Oly.set hO2.out 1 v0) v1 v2 v3 v4)
          rw [hq] at hh
          replace hh := Lib.hid hh
          replace hpi2 := Lib.hid hpi2
          replace hX := Lib.hid hX
          replace hsg := Lib.hid hsg
          replace hq := Lib.hid hq
          clear hpi hsh hP2 hO2 hb3
          go_wp2_with (go_at_call 49; refine (hh.out _).mono ?_; rintro e w4 ⟨rfl, rfl⟩)
          all_goals (first | go_end0 | refine bodyPost_ret (results_none rfl _ _ _) rfl ?_)
          all_goals exact NextIs.ok hpi2.out hP3.out (hO3.out _ _ _ _ _)
        · have hq' : Lib.hasPrefix tt X = false := by simpa using hq
          rw [hq'] at hh
          have hno2 : Hid (∀ j, j < k + 1 → Lib.hasPrefix tt (CM.sgs.getD j []) = false) := Lib.hid (fun j hj => by
            by_cases hjk : j = k
            · rw [hjk, hX]; exact hq'
            · exact hno.out j (by omega))
          replace hh := Lib.hid hh
          replace hX := Lib.hid hX
          replace hq := Lib.hid hq
          replace hq' := Lib.hid hq'
          clear hpi hsh
          go_wp2_with (go_at_call 49; refine (hh.out _).mono ?_; rintro e w4 ⟨rfl, rfl⟩)
          all_goals go_roundg (6 - (k + 1))
          case measure => omega
          case rel => exact ⟨k + 1, rfl, by go_num, by omega, hno2, rfl⟩
      · obtain rfl : k = 6 := by omega
        have hsg := CM.sign_none hno.out
        have hpi2 := hpi.out
        rw [if_pos hsg] at hpi2
        replace hpi2 := Lib.hid hpi2
        replace hsg := Lib.hid hsg
        clear hpi hsh
        go_wp2_with (go_at_call 46; refine (hfl.out _).mono ?_; rintro e w5 ⟨rfl, hw5⟩; subst hw5)
        all_goals exact ⟨rfl, NextIs.err hpi2.out hO2.out⟩
end Go.Proofs.YtcjcflmnghhbaaaGreat
