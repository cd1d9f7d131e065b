/-
  The reference's next; of chapter 27.
  Conditions: as each theorem states them.
-/
import Derived.Test.YtcjcflmnghhbaaaGreatRc0
import Derived.Test.YtcjcflmnghhbaaaGreatNum2
import Derived.Test.YtcjcflmnghhbaaaGreatUnqR
import Derived.Deep.DeepCutAuto
import Derived.Deep.CutBlock
namespace Go.Proofs.YtcjcflmnghhbaaaGreat
open Go.RowKit
set_option linter.unusedVariables false
set_option linter.unusedSimpArgs false
open CM (Pc Ps)
abbrev RAt (w : World) (g : Nat) (s : List UInt8) (r : Rd) : Prop := Blk w g 104 (r.cells s)
theorem RAt.facts {w : World} {g : Nat} {s : List UInt8} {r : Rd} (h : RAt w g s r) : w.cell? ⟨g, 0, none⟩ = some (strV s) ∧ w.cell? ⟨g, 1, none⟩ = some (.int .i64 (r.at_ : Int)) ∧ w.cell? ⟨g, 2, none⟩ = some (.int .i64 (r.kind : Int)) ∧ w.cell? ⟨g, 3, none⟩ = some (.int .i64 (r.pat : Int)) ∧ w.cell? ⟨g, 4, none⟩ = some (strV r.ps) ∧ w.cell? ⟨g, 5, none⟩ = some (.int .i64 r.pn) ∧ w.cell? ⟨g, 6, none⟩ = some (.slice r.pa r.pm r.pc) ∧ w.cell? ⟨g, 7, none⟩ = some (.int .i64 r.deep) ∧ w.cell? ⟨g, 8, none⟩ = some (.int .i64 r.bad) ∧ w.cell? ⟨g, 9, none⟩ = some (.int .i64 r.e) :=
  ⟨h.cell 0, h.cell 1, h.cell 2, h.cell 3, h.cell 4, h.cell 5, h.cell 6, h.cell 7, h.cell 8, h.cell 9⟩
theorem RAt.frees {w : World} {g : Nat} {s : List UInt8} {r : Rd} (h : RAt w g s r) : w.frozen? ⟨g, 1, none⟩ = false ∧ w.frozen? ⟨g, 2, none⟩ = false ∧ w.frozen? ⟨g, 3, none⟩ = false ∧ w.frozen? ⟨g, 4, none⟩ = false ∧ w.frozen? ⟨g, 5, none⟩ = false ∧ w.frozen? ⟨g, 6, none⟩ = false ∧ w.frozen? ⟨g, 7, none⟩ = false :=
  ⟨h.free 1, h.free 2, h.free 3, h.free 4, h.free 5, h.free 6, h.free 7⟩
theorem RAt.at {w : World} {g : Nat} {s : List UInt8} {r : Rd} (h : RAt w g s r) (k : Nat) : RAt (w.setCell ⟨g, 1, none⟩ (.int .i64 (k : Int))) g s { r with at_ := k } := Blk.set h 1 _
theorem RAt.piece {w : World} {g : Nat} {s : List UInt8} {r : Rd} (h : RAt w g s r) (kind pat : Nat) (ps : List UInt8) (pn : Int) (pa : Option Addr) (pm pc : Nat) :
    RAt (((((w.setCell ⟨g, 2, none⟩ (.int .i64 (kind : Int))).setCell ⟨g, 3, none⟩ (.int .i64 (pat : Int))).setCell ⟨g, 4, none⟩ (strV ps)).setCell ⟨g, 5, none⟩ (.int .i64 pn)).setCell ⟨g, 6, none⟩ (.slice pa pm pc)) g s { r with kind := kind, pat := pat, ps := ps, pn := pn, pa := pa, pm := pm, pc := pc } :=
  Blk.set (Blk.set (Blk.set (Blk.set (Blk.set h 2 _) 3 _) 4 _) 5 _) 6 _
theorem Oly.rpiece {g : Nat} {w w' : World} (h : Oly g w w') (v2 v3 v4 v5 v6 : Value) : Oly g w (((((w'.setCell ⟨g, 2, none⟩ v2).setCell ⟨g, 3, none⟩ v3).setCell ⟨g, 4, none⟩ v4).setCell ⟨g, 5, none⟩ v5).setCell ⟨g, 6, none⟩ v6) := ((((h.set 2 v2).set 3 v3).set 4 v4).set 5 v5).set 6 v6
/-- what next answers -/
def RNext (s : List UInt8) (g : Nat) (p : Ps) (w : World) (e : Ending) (w' : World) : Prop := e = .returned (.tuple #[]) ∧ Oly g w w' ∧ match p.next s with
  | .ok q => Good w.heap.size w' g s q
  | .error (a, x) => Bad w' g s p.deep a x
theorem RNext.ok {s : List UInt8} {g : Nat} {p q : Ps} {w w' : World} (h : p.next s = .ok q) (hG : Good w.heap.size w' g s q) (hO : Oly g w w') : RNext s g p w (.returned (.tuple #[])) w' := by
  unfold RNext; rw [h]; exact ⟨rfl, hO, hG⟩
theorem RNext.err {s : List UInt8} {g a : Nat} {x : Int} {p : Ps} {w w' : World} (h : p.next s = .error (a, x)) (hx : x ≠ 0) {r : Rd} (hB : RAt w' g s r) (hd : r.deep = (p.deep : Int)) (hb : r.bad = (a : Int)) (he : r.e = x) (hO : Oly g w w') : RNext s g p w (.returned (.tuple #[])) w' := by
  unfold RNext; rw [h]; exact ⟨rfl, hO, r, hB, hd, hb, he, hx⟩
set_option maxRecDepth 100000 in
theorem rnext_bad {w : World} {g : Nat} {s : List UInt8} {d a : Nat} {x : Int} (h : Bad w g s d a x) : Calls Tryz.prog 34 #[.pointer (some ⟨g, 0, none⟩)] w fun e w' => e = .returned (.tuple #[]) ∧ w = w' := by
  obtain ⟨r, hB, _, _, rfl, hx⟩ := h
  have c9 := (RAt.facts hB).2.2.2.2.2.2.2.2.2
  have q0 : (r.e != 0) = true := by simpa using hx
  clear hB hx
  go_enter Tryz.func34, Tryz.ntmps34
  go_wp2_with fail
  all_goals (first | go_end0 | refine bodyPost_ret (results_none rfl _ _ _) rfl ?_)
  all_goals exact ⟨rfl, rfl⟩
theorem Good.mk' {n : Nat} {w : World} {g : Nat} {s : List UInt8} {r : Rd} {q : Ps} (h : RAt w g s r) (h1 : r.at_ = q.at_) (h2 : r.kind = rk q.pc.kind) (h3 : r.pat = q.pc.at_) (h4 : r.ps = rs q.pc) (h5 : r.pn = q.pc.n) (h6 : r.deep = (q.deep : Int)) (h7 : r.bad = 0) (h8 : r.e = 0) (h9 : q.pc.kind = 3 → r.pm = q.pc.s.length ∧ q.pc.s.length ≤ r.pc ∧ BytesN n w r.pa q.pc.s) : Good n w g s q := by
  obtain ⟨a1, a2, a3, a4, a5, a6, a7, a8, a9, a10, a11⟩ := r
  simp only at h1 h2 h3 h4 h5 h6 h7 h8 h9
  subst h1 h2 h3 h4 h5 h6 h7 h8
  exact ⟨a6, a7, a8, h, h9⟩
/-- one sign, or one more -/
def sgn (c : UInt8) (d : Option UInt8) : Nat := if (c = 33 ∨ c = 60 ∨ c = 62) ∧ d = some 61 then 2 else if c = 40 ∨ c = 41 ∨ c = 61 ∨ c = 60 ∨ c = 62 then 1 else 0
theorem signS_sgn (c : UInt8) (t : List UInt8) (h : ¬ (c = 40 ∨ c = 41)) : CM.signS (c :: t) = (c :: t).take (sgn c t.head?) := by
  by_cases h33 : c = 33
  · subst h33
    cases t with
    | nil => rfl
    | cons d t =>
      by_cases hd : d = 61
      · subst hd; rfl
      · have : sgn 33 (d :: t).head? = 0 := by simp [sgn, hd]
        rw [this]
        unfold CM.signS
        split <;> simp_all
  by_cases h60 : c = 60
  · subst h60
    cases t with
    | nil => rfl
    | cons d t =>
      by_cases hd : d = 61
      · subst hd; rfl
      · have : sgn 60 (d :: t).head? = 1 := by simp [sgn, hd]
        rw [this]
        unfold CM.signS
        split <;> simp_all
  by_cases h62 : c = 62
  · subst h62
    cases t with
    | nil => rfl
    | cons d t =>
      by_cases hd : d = 61
      · subst hd; rfl
      · have : sgn 62 (d :: t).head? = 1 := by simp [sgn, hd]
        rw [this]
        unfold CM.signS
        split <;> simp_all
  by_cases h61 : c = 61
  · subst h61
    have : sgn 61 t.head? = 1 := by simp [sgn]
    rw [this]; rfl
  · have : sgn c t.head? = 0 := by unfold sgn; rw [if_neg (by simp [h33, h60, h62]), if_neg (by simp only [not_or] at h; simp [h33, h60, h62, h61, h.1, h.2])]
    rw [this]
    unfold CM.signS
    split <;> simp_all
set_option maxHeartbeats 8000000 in
set_option maxRecDepth 100000 in
theorem rnext_any (s : List UInt8) (hs : s.length ≤ 4096) (p : Ps) (hp : p.at_ ≤ s.length) (n : Nat) (w : World) (g : Nat) (h : Good n w g s p) (hgn : g < n) : Calls Tryz.prog 34 #[.pointer (some ⟨g, 0, none⟩)] w (RNext s g p w) := by
  obtain ⟨pa, pm, pc, h, _⟩ := h
  obtain ⟨b, hb⟩ : ∃ b, CM.skip s p.at_ = b := ⟨_, rfl⟩
  obtain ⟨r0, hr0⟩ : ∃ r, rdOf p pa pm pc = r := ⟨_, rfl⟩
  rw [hr0] at h
  have hr1 : r0.at_ = p.at_ := by rw [← hr0]; rfl
  have hr2 : r0.deep = (p.deep : Int) := by rw [← hr0]; rfl
  have hr3 : r0.e = 0 := by rw [← hr0]; rfl
  have hr4 : r0.bad = 0 := by rw [← hr0]; rfl
  have e9 := (RAt.facts h).2.2.2.2.2.2.2.2.2
  have hgw : g < w.heap.size := h.lt
  rw [hr3] at e9
  replace hr0 := Lib.hid hr0
  replace hr1 := Lib.hid hr1
  replace hr2 := Lib.hid hr2
  replace hr3 := Lib.hid hr3
  replace hr4 := Lib.hid hr4
  replace h := Lib.hid h
  go_enter Tryz.func34, Tryz.ntmps34
  go_upto_block 0 with fail
  go_cut [] from 17 to 45 (fun wx => RAt wx g s { r0 with at_ := b } ∧ Oly g w wx)
  case first => as_aux_lemma => --DONE
    go_wp2_with fail
    go_loopg [] (s.length - p.at_) (fun gh wr => ∃ k : Nat, gh = s.length - k ∧ k ≤ s.length ∧ Hid (CM.skip s k = b) ∧ Hid (RAt wr g s { r0 with at_ := k }) ∧ Hid (Oly g w wr))
    case atStart => exact ⟨p.at_, rfl, hp, Lib.hid hb, Lib.hid (by rw [← hr1.out]; exact h.out), Lib.hid (Only.refl _ _)⟩
    case round =>
      clear h hb e9
      obtain ⟨k, rfl, hk, hsk, hP, hO⟩ := hrel
      obtain ⟨c0, c1, _⟩ := (RAt.facts hP.out)
      simp only at c1
      have f1 := (RAt.frees hP.out).1
      have hgl := hP.out.lt
      by_cases hlt : k < s.length
      · have hby := ba_at hlt (by rw [ba_size]; exact hlt)
        have q0 : decide ((k : Int) < s.length) = true := by rw [decide_eq_true_eq]; omega
        by_cases h32 : s[k] = 32
        · have q1 : (((⟨s.toArray⟩ : ByteArray)[k]'(by rw [ba_size]; exact hlt)).toNat : Int) = 32 := by rw [hby, h32]; rfl
          have hsk2 := Lib.hid ((CM.skip_blank hlt h32).symm.trans hsk.out)
          have hP2 := Lib.hid (hP.out.set 1 (.int .i64 ((k + 1 : Nat) : Int)))
          clear hby h32 hsk
          go_wp2_with (go_quiet (fail))
          all_goals go_roundg (s.length - (k + 1))
          case measure => omega
          case rel => exact ⟨k + 1, rfl, by omega, hsk2, hP2, Lib.hid ((hO.out.drewN _).setCell (p := ⟨g, 1, none⟩) rfl _)⟩
        · have q1 : ((((⟨s.toArray⟩ : ByteArray)[k]'(by rw [ba_size]; exact hlt)).toNat : Int) == 32) = false := by
            rw [hby]; simp only [beq_eq_false_iff_ne, ne_eq]; intro e; exact h32 (UInt8.toNat_inj.1 (by rw [show (32 : UInt8).toNat = 32 from rfl]; omega))
          have hkb := (CM.skip_no hlt h32).symm.trans hsk.out
          subst hkb
          clear hby h32 hsk
          go_wp2_with (go_quiet (fail))
          go_meet
          exact ⟨hP.out, hO.out.drewN _⟩
      · have q0 : decide ((k : Int) < s.length) = false := by rw [decide_eq_false_iff_not]; omega
        have hkb := (CM.skip_end (s := s) (k := k) (by omega)).symm.trans hsk.out
        subst hkb
        clear hsk
        go_wp2_with (go_quiet (fail))
        go_meet
        exact ⟨hP.out, hO.out.drewN _⟩
  case rest =>
    obtain ⟨hP0, hO0⟩ := hcut
    have hn := CM.next_eq hb
    have hbl := (CM.skip_le s p.at_ hp)
    rw [hb] at hbl
    obtain ⟨w1, hw1⟩ : ∃ w1 : World, w1 = wc := ⟨_, rfl⟩
    subst hw1
    obtain ⟨c0, c1, c2, c3, c4, c5, c6, c7, c8, c9⟩ := RAt.facts hP0
    simp only at c1 c2 c3 c4 c5 c6 c7 c8 c9
    obtain ⟨f1, f2, f3, f4, f5, f6, f7⟩ := RAt.frees hP0
    have hgl := hP0.lt
    have hP1 := RAt.piece hP0 0 b [] 0 none 0 0
    have hO1 := Oly.rpiece hO0 (.int .i64 0) (.int .i64 (b : Int)) (strV []) (.int .i64 0) (.slice none 0 0)
    clear h hb e9
    replace hP0 := Lib.hid hP0
    replace hO0 := Lib.hid hO0
    replace hP1 := Lib.hid hP1
    replace hO1 := Lib.hid hO1
    replace hn := Lib.hid hn
    go_upto_region 5 with fail
    generalize World.setCell (World.setCell (World.setCell (World.setCell (World.setCell w1 _ _) _ _) _ _) _ _) _ _ = w2 at *
    obtain ⟨d0, d1, d2, d3, d4, d5, d6, d7, d8, d9⟩ := RAt.facts hP1.out
    simp only at d1 d2 d3 d4 d5 d6 d7 d8 d9
    obtain ⟨j1, j2, j3, j4, j5, j6, j7⟩ := RAt.frees hP1.out
    have hgl2 := hP1.out.lt
    clear c0 c1 c2 c3 c4 c5 c6 c7 c8 c9 f1 f2 f3 f4 f5 f6 f7 hgl hP0 hO0
    by_cases hlt : b < s.length
    case neg =>
      obtain rfl : b = s.length := by omega
      have hn2 : p.next s = .ok ⟨⟨0, s.length, 0, []⟩, s.length, p.deep⟩ := by rw [hn.out, List.drop_eq_nil_of_le (Nat.le_refl _)]; simp only [CM.pieceS]
      have hr := Lib.hid (RNext.ok hn2 (Good.mk' hP1.out rfl rfl rfl rfl rfl hr2.out hr4.out hr3.out (fun h => by cases h)) hO1.out)
      clear hn hn2
      go_wp2_with fail
      all_goals (first | go_end0 | refine bodyPost_ret (results_none rfl _ _ _) rfl ?_)
      all_goals exact hr.out
    case pos =>
    have hd : s.drop b = s[b] :: s.drop (b + 1) := List.drop_eq_getElem_cons hlt
    have hby := ba_at hlt (by rw [ba_size]; exact hlt)
    obtain ⟨B, hB⟩ : ∃ B : Nat, (((⟨s.toArray⟩ : ByteArray)[b]'(by rw [ba_size]; exact hlt)).toNat : Nat) = B := ⟨_, rfl⟩
    have hB' : s[b].toNat = B := by rw [← hB, hby]
    have qe : ((b : Int) == (s.length : Int)) = false := by simp only [beq_eq_false_iff_ne, ne_eq]; omega
    by_cases hlow : CM.low s[b] = true
    · as_aux_lemma => --DONE
        have hl2 := (CM.low_is _).1 hlow
        rw [hB'] at hl2
        have ql1 : decide ((97 : Int) ≤ B) = true := by rw [decide_eq_true_eq]; omega
        have ql2 : decide ((B : Int) ≤ 122) = true := by rw [decide_eq_true_eq]; omega
        obtain ⟨c, hc⟩ : ∃ c, CM.skipw s b = c := ⟨_, rfl⟩
        obtain ⟨hc1, hc2⟩ := CM.skipw_le s (Nat.le_of_lt hlt)
        have hwd := CM.skipw_word s b
        rw [hc] at hc1 hc2 hwd
        have hn2 : p.next s = if CM.isWord ((s.drop b).take (c - b)) = true then .ok ⟨⟨1, b, 0, (s.drop b).take (c - b)⟩, c, p.deep⟩ else .error (b, 30) := by
          rw [hn.out, hwd, hd]
          simp only [CM.pieceS]
          rw [if_pos hlow]
          have e : b + ((s[b] :: s.drop (b + 1)).takeWhile CM.low).length = c := by rw [← hd, ← hc]; rfl
          rw [e]
          by_cases hw : CM.isWord ((s[b] :: s.drop (b + 1)).takeWhile CM.low) = true
          · simp only [if_pos hw]
          · simp only [if_neg hw]
        replace hn2 := Lib.hid hn2
        replace hc := Lib.hid hc
        clear hn hd hby hB' hlow hwd
        go_upto_block 2 with fail
        go_cut [] from 74 to 114 (fun wx => RAt wx g s { r0 with at_ := c, kind := 0, pat := b, ps := [], pn := 0, pa := none, pm := 0, pc := 0 } ∧ Oly g w wx)
        case first =>
          clear d0 d1 d2 d3 d4 d5 d6 d7 d8 d9 j1 j2 j3 j4 j5 j6 j7 hgl2
          go_wp2_with fail
          go_loopg [] (s.length - b) (fun gh wr => ∃ k : Nat, gh = s.length - k ∧ k ≤ s.length ∧ Hid (CM.skipw s k = c) ∧ Hid (RAt wr g s { r0 with at_ := k, kind := 0, pat := b, ps := [], pn := 0, pa := none, pm := 0, pc := 0 }) ∧ Hid (Oly g w wr))
          case atStart => exact ⟨b, rfl, by omega, hc, hP1, hO1⟩
          case round =>
            clear hP1 hO1 hc
            obtain ⟨k, rfl, hk, hsk, hP, hO⟩ := hrel
            obtain ⟨c0, c1, _⟩ := RAt.facts hP.out
            simp only at c1
            have f1 := (RAt.frees hP.out).1
            have hgl := hP.out.lt
            by_cases hlk : k < s.length
            · have hby := ba_at hlk (by rw [ba_size]; exact hlk)
              have q0 : decide ((k : Int) < s.length) = true := by rw [decide_eq_true_eq]; omega
              obtain ⟨D, hD⟩ : ∃ D : Nat, (((⟨s.toArray⟩ : ByteArray)[k]'(by rw [ba_size]; exact hlk)).toNat : Nat) = D := ⟨_, rfl⟩
              have hD' : s[k].toNat = D := by rw [← hD, hby]
              by_cases hl : CM.low s[k] = true
              · have hl3 := (CM.low_is _).1 hl
                rw [hD'] at hl3
                have q1 : decide ((97 : Int) ≤ D) = true := by rw [decide_eq_true_eq]; omega
                have q2 : decide ((D : Int) ≤ 122) = true := by rw [decide_eq_true_eq]; omega
                have hsk2 := Lib.hid ((CM.skipw_low hlk hl).symm.trans hsk.out)
                have hP2 := Lib.hid (RAt.at hP.out (k + 1))
                clear hby hl hsk hD'
                go_wp2_with (go_quiet (fail))
                all_goals go_roundg (s.length - (k + 1))
                case measure => omega
                case rel => exact ⟨k + 1, rfl, by omega, hsk2, hP2, Lib.hid (Oly.set (hO.out.drewN _) 1 _)⟩
              · have hkb := (CM.skipw_no hlk (by simpa using hl)).symm.trans hsk.out
                subst hkb
                have hl3 := CM.low_not (by simpa using hl)
                rw [hD'] at hl3
                rcases hl3 with hl3 | hl3
                · have q1 : decide ((97 : Int) ≤ D) = false := by rw [decide_eq_false_iff_not]; omega
                  clear hby hl hsk hD'
                  go_wp2_with (go_quiet (fail))
                  go_meet
                  exact ⟨hP.out, hO.out.drewN _⟩
                · have q1 : decide ((97 : Int) ≤ D) = true := by rw [decide_eq_true_eq]; omega
                  have q2 : decide ((D : Int) ≤ 122) = false := by rw [decide_eq_false_iff_not]; omega
                  clear hby hl hsk hD'
                  go_wp2_with (go_quiet (fail))
                  go_meet
                  exact ⟨hP.out, hO.out.drewN _⟩
            · have q0 : decide ((k : Int) < s.length) = false := by rw [decide_eq_false_iff_not]; omega
              have hkb := (CM.skipw_end (s := s) (k := k) (by omega)).symm.trans hsk.out
              subst hkb
              clear hsk
              go_wp2_with (go_quiet (fail))
              go_meet
              exact ⟨hP.out, hO.out.drewN _⟩
        case rest =>
          clear d0 d1 d2 d3 d4 d5 d6 d7 d8 d9 j1 j2 j3 j4 j5 j6 j7 hgl2 hP1 hO1
          obtain ⟨hP, hO⟩ := hcut
          obtain ⟨w3, hw3⟩ : ∃ w2 : World, w2 = wc := ⟨_, rfl⟩
          subst hw3
          obtain ⟨c0, c1, c2, c3, c4, c5, c6, c7, c8, c9⟩ := RAt.facts hP
          simp only at c1 c2 c3 c4 c5 c6 c7 c8 c9
          obtain ⟨f1, f2, f3, f4, f5, f6, f7⟩ := RAt.frees hP
          have hgl := hP.lt
          have hx : (⟨s.toArray⟩ : ByteArray).extract b c = ⟨((s.drop b).take (c - b)).toArray⟩ := ext_list s b c
          have hiw := in_word ((s.drop b).take (c - b))
          generalize (s.drop b).take (c - b) = wd at *
          have hs0 : (0 : Int) ≤ b := by omega
          have hs1 : (b : Int) ≤ c := by omega
          have hs2 : (c : Int) ≤ s.length := by omega
          have hP3 := Lib.hid (fun m => (RAt.piece (Blk.drewN hP m) 1 b wd 0 none 0 0 : RAt _ g s _))
          have hO3 := Lib.hid (fun m => Oly.rpiece (hO.drewN m) (.int .i64 1) (.int .i64 (b : Int)) (strV wd) (.int .i64 0) (.slice none 0 0))
          replace hiw := Lib.hid hiw
          replace hP := Lib.hid hP
          replace hO := Lib.hid hO
          go_upto_region 12 with (go_quiet (fail))
          have hP4 := hP3.out nq
          have hO4 := hO3.out nq
          generalize hW4 : World.setCell (World.setCell (World.setCell (World.setCell (World.setCell (w3.drewN nq) _ _) _ _) _ _) _ _) _ _ = w4
          have e4 : (((((w3.drewN nq).setCell ⟨g, 2, none⟩ (.int .i64 1)).setCell ⟨g, 3, none⟩ (.int .i64 (b : Int))).setCell ⟨g, 4, none⟩ (strV wd)).setCell ⟨g, 5, none⟩ (.int .i64 0)).setCell ⟨g, 6, none⟩ (.slice none 0 0) = w4 := hW4
          have hP5 : RAt w4 g s { r0 with at_ := c, kind := 1, pat := b, ps := wd, pn := 0, pa := none, pm := 0, pc := 0 } := e4 ▸ hP4
          have hO5 : Oly g w w4 := e4 ▸ hO4
          clear hP4 hO4 hW4 e4 hP3 hO3 hP hO c0 c1 c2 c3 c4 c5 c6 c7 c8 c9 f1 f2 f3 f4 f5 f6 f7 hgl
          replace hP5 := Lib.hid hP5
          replace hO5 := Lib.hid hO5
          obtain ⟨I1, hI1⟩ : ∃ x, inS wd numsL = x := ⟨_, rfl⟩
          obtain ⟨I2, hI2⟩ : ∃ x, inS wd txtsL = x := ⟨_, rfl⟩
          obtain ⟨I3, hI3⟩ : ∃ x, inS wd flgsL = x := ⟨_, rfl⟩
          obtain ⟨I4, hI4⟩ : ∃ x, inS wd phsL = x := ⟨_, rfl⟩
          obtain ⟨I5, hI5⟩ : ∃ x, inS wd othL = x := ⟨_, rfl⟩
          replace hiw := hiw.out
          rw [hI1, hI2, hI3, hI4, hI5] at hiw
          have k1 := Lib.hid (fun w' b' (hS : StrsAt w' b' numsL) => (by have := in_at wd numsL 4 rfl w' b' 4 hS (by omega); rw [hI1] at this; exact this : Calls Tryz.prog 39 #[.string ⟨wd.toArray⟩, .slice (some ⟨b', 0, none⟩) 4 4] w' fun e w2 => e = .returned (.bool I1) ∧ w' = w2))
          have k2 := Lib.hid (fun w' b' (hS : StrsAt w' b' txtsL) => (by have := in_at wd txtsL 4 rfl w' b' 4 hS (by omega); rw [hI2] at this; exact this : Calls Tryz.prog 39 #[.string ⟨wd.toArray⟩, .slice (some ⟨b', 0, none⟩) 4 4] w' fun e w2 => e = .returned (.bool I2) ∧ w' = w2))
          have k3 := Lib.hid (fun w' b' (hS : StrsAt w' b' flgsL) => (by have := in_at wd flgsL 5 rfl w' b' 5 hS (by omega); rw [hI3] at this; exact this : Calls Tryz.prog 39 #[.string ⟨wd.toArray⟩, .slice (some ⟨b', 0, none⟩) 5 5] w' fun e w2 => e = .returned (.bool I3) ∧ w' = w2))
          have k4 := Lib.hid (fun w' b' (hS : StrsAt w' b' phsL) => (by have := in_at wd phsL 4 rfl w' b' 4 hS (by omega); rw [hI4] at this; exact this : Calls Tryz.prog 39 #[.string ⟨wd.toArray⟩, .slice (some ⟨b', 0, none⟩) 4 4] w' fun e w2 => e = .returned (.bool I4) ∧ w' = w2))
          have k5 := Lib.hid (fun w' b' (hS : StrsAt w' b' othL) => (by have := in_at wd othL 7 rfl w' b' 7 hS (by omega); rw [hI5] at this; exact this : Calls Tryz.prog 39 #[.string ⟨wd.toArray⟩, .slice (some ⟨b', 0, none⟩) 7 7] w' fun e w2 => e = .returned (.bool I5) ∧ w' = w2))
          clear hI1 hI2 hI3 hI4 hI5
          have hok := Lib.hid (fun w' (hI : CM.isWord wd = true) (hb : Below w4.heap.size w4 w') => (RNext.ok (q := ⟨⟨1, b, 0, wd⟩, c, p.deep⟩) (by rw [hn2.out, if_pos hI]) (Good.mk' (Blk.below hP5.out hb) rfl rfl rfl rfl rfl hr2.out hr4.out hr3.out (fun h => by cases h)) (Only.trans hO5.out (Only.of_below hb)) : RNext s g p w (.returned (.tuple #[])) w'))
          have hno := Lib.hid (fun w' (hI : CM.isWord wd = false) (hb : Below w4.heap.size w4 w') => (by
            refine (rfail_ok (Blk.below hP5.out hb) hr3.out b 30).mono fun e w2 ⟨h1, h2, h3⟩ => ⟨h1, ?_⟩
            exact RNext.err (x := 30) (by rw [hn2.out, if_neg (by simp [hI])]) (by decide) h2 hr2.out rfl rfl (Only.trans hO5.out (Only.trans (Only.of_below hb) h3)) : Calls Tryz.prog 36 #[.pointer (some ⟨g, 0, none⟩), .int .i64 (b : Int), .int .i64 30] w' fun e w2 => e = .returned (.tuple #[]) ∧ RNext s g p w (.returned (.tuple #[])) w2))
          have hbx : Below w4.heap.size w4 w4 := Below.refl _ _
          have hcs : I1 = true ∨ (I1 = false ∧ I2 = true) ∨ (I1 = false ∧ I2 = false ∧ I3 = true) ∨ (I1 = false ∧ I2 = false ∧ I3 = false ∧ I4 = true) ∨ (I1 = false ∧ I2 = false ∧ I3 = false ∧ I4 = false ∧ I5 = true) ∨ (I1 = false ∧ I2 = false ∧ I3 = false ∧ I4 = false ∧ I5 = false) := by
            cases I1 <;> cases I2 <;> cases I3 <;> cases I4 <;> cases I5 <;> simp
          rcases hcs with rfl | ⟨rfl, rfl⟩ | ⟨rfl, rfl, rfl⟩ | ⟨rfl, rfl, rfl, rfl⟩ | ⟨rfl, rfl, rfl, rfl, rfl⟩ | ⟨rfl, rfl, rfl, rfl, rfl⟩
          all_goals simp only [Bool.true_or, Bool.or_true, Bool.or_false, Bool.false_or] at hiw
          all_goals replace hiw := Lib.hid hiw
          all_goals go_wp2_with (first
            | (go_at_call 40; refine (rnums_any _).mono ?_; rintro e w5 ⟨b5, rfl, hS5, hb5, _⟩; have hbx := bl_trans hbx hb5)
            | (go_at_call 53; refine (rtxts_any _).mono ?_; rintro e w6 ⟨b6, rfl, hS6, hb6, _⟩; have hbx := bl_trans hbx hb6)
            | (go_at_call 54; refine (rflgs_any _).mono ?_; rintro e w7 ⟨b7, rfl, hS7, hb7, _⟩; have hbx := bl_trans hbx hb7)
            | (go_at_call 38; refine (rphs_any _).mono ?_; rintro e w8 ⟨b8, rfl, hS8, hb8, _⟩; have hbx := bl_trans hbx hb8)
            | (go_at_call 55; refine (roth_any _).mono ?_; rintro e w9 ⟨b9, rfl, hS9, hb9, _⟩; have hbx := bl_trans hbx hb9)
            | (go_at_call 39; (first
              | ((with_reducible refine (k1.out _ _ hS5).mono ?_); rintro e w6 ⟨rfl, rfl⟩)
              | ((with_reducible refine (k2.out _ _ hS6).mono ?_); rintro e w7 ⟨rfl, rfl⟩)
              | ((with_reducible refine (k3.out _ _ hS7).mono ?_); rintro e w8 ⟨rfl, rfl⟩)
              | ((with_reducible refine (k4.out _ _ hS8).mono ?_); rintro e w9 ⟨rfl, rfl⟩)
              | ((with_reducible refine (k5.out _ _ hS9).mono ?_); rintro e w10 ⟨rfl, rfl⟩)))
            | (go_at_call 36; refine (hno.out _ hiw.out hbx).mono ?_; rintro e w11 ⟨rfl, hfin⟩))
          all_goals (first | go_end0 | refine bodyPost_ret (results_none rfl _ _ _) rfl ?_)
          all_goals first | exact hok.out _ hiw.out hbx | exact hfin
    have hlow' : CM.low s[b] = false := by simpa using hlow
    have hl3 := CM.low_not hlow'
    rw [hB'] at hl3
    have hpi : p.next s = match (if dig s[b] = true then (let N := numS s b 2147483648; if N.2.2 = 0 then .ok ((⟨2, b, N.1, []⟩ : Pc), N.2.1.toNat) else .error (b, N.2.2)) else if s[b] = 34 then (let U := unquoteS s b; if U.2.2 = 0 then .ok (⟨3, b, 0, U.1⟩, U.2.1.toNat) else .error (b, U.2.2))
        else if s[b] = 40 ∨ s[b] = 41 then .ok (⟨5, b, 0, [s[b]]⟩, b + 1) else if CM.signS (s.drop b) = [] then .error (b, 9) else .ok (⟨4, b, 0, CM.signS (s.drop b)⟩, b + (CM.signS (s.drop b)).length) : Except CM.Er (Pc × Nat)) with | .error e => .error e | .ok (x, c) => .ok ⟨x, c, p.deep⟩ := by
      rw [hn.out, hd]
      simp only [CM.pieceS]
      rw [if_neg hlow]
      rfl
    clear hn
    by_cases hdg : dig s[b] = true
    · as_aux_lemma => --DONE
        rw [if_pos hdg] at hpi
        have hd2 : 48 ≤ B ∧ B ≤ 57 := by unfold dig at hdg; rw [hB'] at hdg; simpa using hdg
        have qa : decide ((97 : Int) ≤ B) = false := by rw [decide_eq_false_iff_not]; omega
        have qb : decide ((48 : Int) ≤ B) = true := by rw [decide_eq_true_eq]; omega
        have qc : decide ((B : Int) ≤ 57) = true := by rw [decide_eq_true_eq]; omega
        clear hl3 hd hby hB' hlow hlow' hdg
        obtain ⟨c2, W2, hcv, hb2, hr2', hl2⟩ := conv_bytes (P := Tryz.prog) w2 9 23 5 s Tryz.underlying9 Tryz.underlying23 Tryz.underlying5
        have hnm : Calls Tryz.prog 56 #[.slice (some ⟨w2.heap.size, 0, none⟩) s.length c2, .int .i64 b, .int .i64 2147483648] W2 fun e w' => e = .returned (.tuple #[.int .i64 (numS s b 2147483648).1, .int .i64 (numS s b 2147483648).2.1, .int .i64 (numS s b 2147483648).2.2]) ∧ W2 = w' := refnum_in (some ⟨w2.heap.size, 0, none⟩) c2 s b 2147483648 W2 (by omega) (by omega) (by omega) (fun _ => ⟨_, _, rfl, hr2'⟩)
        have hrg := numS_range s b 2147483648
        obtain ⟨⟨v, t, x⟩, hN⟩ : ∃ N, numS s b 2147483648 = N := ⟨_, rfl⟩
        rw [hN] at hnm hrg hpi
        simp only at hnm hrg hpi
        have hP2 : RAt W2 g s { r0 with at_ := b, kind := 0, pat := b, ps := [], pn := 0, pa := none, pm := 0, pc := 0 } := Blk.below hP1.out hb2
        have hO2 := Lib.hid (Only.trans hO1.out (Only.of_below hb2))
        obtain ⟨c0, c1, c2', c3, c4, c5, c6, c7, c8, c9⟩ := RAt.facts hP2
        simp only at c1 c2' c3 c4 c5 c6 c7 c8 c9
        obtain ⟨f1, f2, f3, f4, f5, f6, f7⟩ := RAt.frees hP2
        have hgl3 := hP2.lt
        replace hP2 := Lib.hid hP2
        replace hnm := Lib.hid hnm
        clear hr2' hN hb2 hO1 hP1
        by_cases hx : x = 0
        · subst hx
          obtain ⟨c, rfl, hc1, hc2⟩ := hrg rfl
          simp only [if_true, Int.toNat_natCast] at hpi
          have hr := Lib.hid (RNext.ok hpi (Good.mk' (RAt.piece (RAt.at hP2.out c) 2 b [] v none 0 0) rfl rfl rfl rfl rfl hr2.out hr4.out hr3.out (fun h => by cases h)) (Oly.rpiece (Oly.set hO2.out 1 (.int .i64 (c : Int))) (.int .i64 2) (.int .i64 (b : Int)) (strV []) (.int .i64 v) (.slice none 0 0)))
          clear hrg hpi
          go_wp2_with (go_at_call 56; refine hnm.out.mono ?_; rintro e w4 ⟨rfl, rfl⟩)
          all_goals (first | go_end0 | refine bodyPost_ret (results_none rfl _ _ _) rfl ?_)
          all_goals exact hr.out
        · have q6 : (x != 0) = true := by simpa using hx
          rw [if_neg hx] at hpi
          have hno := Lib.hid (by
            refine (rfail_ok hP2.out hr3.out b x).mono fun e w2 ⟨h1, h2, h3⟩ => ⟨h1, ?_⟩
            exact RNext.err hpi hx h2 hr2.out rfl rfl (Only.trans hO2.out h3) : Calls Tryz.prog 36 #[.pointer (some ⟨g, 0, none⟩), .int .i64 (b : Int), .int .i64 x] W2 fun e w2 => e = .returned (.tuple #[]) ∧ RNext s g p w (.returned (.tuple #[])) w2)
          clear hrg hpi
          replace hx := Lib.hid hx
          go_wp2_with (first
            | (go_at_call 56; refine hnm.out.mono ?_; rintro e w4 ⟨rfl, rfl⟩)
            | (go_at_call 36; refine hno.out.mono ?_; rintro e w11 ⟨rfl, hfin⟩))
          all_goals (first | go_end0 | refine bodyPost_ret (results_none rfl _ _ _) rfl ?_)
          all_goals exact hfin
    rw [if_neg hdg] at hpi
    have hdn : B < 48 ∨ 57 < B := by
      have : ¬ (48 ≤ B ∧ B ≤ 57) := fun h => hdg (by unfold dig; rw [hB']; simpa using h)
      omega
    by_cases h34 : s[b] = 34
    · as_aux_lemma => --DONE
        rw [if_pos h34] at hpi
        obtain rfl : B = 34 := by rw [← hB', h34]; rfl
        have huq := SH.runquote_any s b (by omega) (by omega) w2
        have hrg := unquote_range s b
        obtain ⟨⟨U, t, x⟩, hU⟩ : ∃ N, unquoteS s b = N := ⟨_, rfl⟩
        rw [hU] at huq hrg hpi
        unfold SH.UnqIs at huq
        simp only at huq hrg hpi
        clear hl3 hd hby hB' hlow hlow' hdg hdn h34 hU
        have hP2 := Lib.hid (fun (w3 : World) (hb : Below w2.heap.size w2 w3) => (Blk.below hP1.out hb : RAt w3 g s { r0 with at_ := b, kind := 0, pat := b, ps := [], pn := 0, pa := none, pm := 0, pc := 0 }))
        have hO2 := Lib.hid (fun (w3 : World) (hb : Below w2.heap.size w2 w3) => Only.trans hO1.out (Only.of_below hb))
        have hsz := hO1.out.size
        replace huq := Lib.hid huq
        by_cases hx : x = 0
        · subst hx
          obtain ⟨c, rfl, hc1, hc2⟩ := hrg rfl
          simp only [if_true, Int.toNat_natCast] at hpi
          have hr := Lib.hid (fun w3 a m cc (hb : Below w2.heap.size w2 w3) (ho : w3.ownsRow w2.heap.size 5 1 (.slice a m cc) U.length (Lib.byteCells U)) => (by
            obtain ⟨e1, e2, e3⟩ := BytesN.of_own ho
            refine RNext.ok hpi (Good.mk' (RAt.piece (RAt.at (hP2.out w3 hb) c) 3 b [] 0 a m cc) rfl rfl rfl rfl rfl hr2.out hr4.out hr3.out (fun _ => ⟨e1, e2, ?_⟩)) (Oly.rpiece (Oly.set (hO2.out w3 hb) 1 (.int .i64 (c : Int))) (.int .i64 3) (.int .i64 (b : Int)) (strV []) (.int .i64 0) (.slice a m cc))
            refine (e3.mono hsz).only (K := fun k => k = g) (Oly.rpiece (Oly.set (Only.refl _ w3) 1 (.int .i64 (c : Int))) (.int .i64 3) (.int .i64 (b : Int)) (strV []) (.int .i64 0) (.slice a m cc)) (fun k hk e => ?_)
            omega : RNext s g p w (.returned (.tuple #[])) _))
          clear hrg hpi
          go_wp2_with (go_at_call 57; refine huq.out.mono ?_; rintro e w3 ⟨v, rfl, hown, hb3⟩; obtain ⟨va, vc, rfl⟩ := own_slice hown; have hfin := hr.out _ _ _ _ hb3 hown; have hP3 := hP2.out _ hb3; obtain ⟨c0, c1, c2, c3, c4, c5, c6, c7, c8, c9⟩ := RAt.facts hP3; simp only at c1 c2 c3 c4 c5 c6 c7 c8 c9; obtain ⟨f1, f2, f3, f4, f5, f6, f7⟩ := RAt.frees hP3; have hgl3 := hP3.lt; clear hP3 hown; replace hfin := Lib.hid hfin; replace hb3 := Lib.hid hb3)
          all_goals (first | go_end0 | refine bodyPost_ret (results_none rfl _ _ _) rfl ?_)
          all_goals exact hfin.out
        · have q6 : (x != 0) = true := by simpa using hx
          rw [if_neg hx] at hpi
          have hno := Lib.hid (fun w3 (hb : Below w2.heap.size w2 w3) => (by
            refine (rfail_ok (hP2.out w3 hb) hr3.out b x).mono fun e w2 ⟨h1, h2, h3⟩ => ⟨h1, ?_⟩
            exact RNext.err hpi hx h2 hr2.out rfl rfl (Only.trans (hO2.out w3 hb) h3) : Calls Tryz.prog 36 #[.pointer (some ⟨g, 0, none⟩), .int .i64 (b : Int), .int .i64 x] w3 fun e w2 => e = .returned (.tuple #[]) ∧ RNext s g p w (.returned (.tuple #[])) w2))
          clear hrg hpi
          replace hx := Lib.hid hx
          go_wp2_with (first
            | (go_at_call 57; refine huq.out.mono ?_; rintro e w3 ⟨v, rfl, hown, hb3⟩; replace hown := Lib.hid hown)
            | (go_at_call 36; refine (hno.out _ hb3).mono ?_; rintro e w11 ⟨rfl, hfin⟩))
          all_goals (first | go_end0 | refine bodyPost_ret (results_none rfl _ _ _) rfl ?_)
          all_goals exact hfin
    rw [if_neg h34] at hpi
    have hpi2 : p.next s = if sgn s[b] (s.drop (b + 1)).head? = 0 then .error (b, 9) else .ok ⟨⟨if s[b] = 40 ∨ s[b] = 41 then 5 else 4, b, 0, (s.drop b).take (sgn s[b] (s.drop (b + 1)).head?)⟩, b + sgn s[b] (s.drop (b + 1)).head?, p.deep⟩ := by
      rw [hpi]
      by_cases hbr : s[b] = 40 ∨ s[b] = 41
      · have e1 : sgn s[b] (s.drop (b + 1)).head? = 1 := by rcases hbr with h | h <;> rw [h] <;> simp [sgn]
        rw [e1, if_pos hbr, if_pos hbr, if_neg (by decide), hd]
        rfl
      · have e1 := signS_sgn s[b] (s.drop (b + 1)) hbr
        rw [← hd] at e1
        rw [if_neg hbr, if_neg hbr, e1]
        by_cases hz : sgn s[b] (s.drop (b + 1)).head? = 0
        · rw [hz, if_pos (by simp), if_pos rfl]
        · have h2 : sgn s[b] (s.drop (b + 1)).head? ≤ (s.drop b).length := by
            rw [hd]
            unfold sgn
            split
            · rename_i h
              obtain ⟨h1, h2⟩ := h
              cases hdd : s.drop (b + 1) with
              | nil => rw [hdd] at h2; simp at h2
              | cons a t => simp
            · split <;> simp <;> omega
          rw [if_neg (by rw [List.take_eq_nil_iff]; simp only [not_or]; exact ⟨hz, by intro e; rw [hd] at e; cases e⟩), if_neg hz, List.length_take, Nat.min_eq_left h2]
    have h34' : B ≠ 34 := fun e => h34 (UInt8.toNat_inj.1 (by rw [hB', e]; rfl))
    have hno := Lib.hid (fun (hz : p.next s = .error (b, 9)) => (by
      refine (rfail_ok hP1.out hr3.out b 9).mono fun e w2 ⟨h1, h2, h3⟩ => ⟨h1, ?_⟩
      exact RNext.err (x := 9) hz (by decide) h2 hr2.out rfl rfl (Only.trans hO1.out h3) : Calls Tryz.prog 36 #[.pointer (some ⟨g, 0, none⟩), .int .i64 (b : Int), .int .i64 9] w2 fun e w2 => e = .returned (.tuple #[]) ∧ RNext s g p w (.returned (.tuple #[])) w2))
    clear hpi hlow hlow' hdg h34
    obtain ⟨cc, hcc⟩ : ∃ c, s[b] = c := ⟨_, rfl⟩
    rw [hcc] at hpi2 hB' hby
    have qq : ((B : Int) == 34) = false := by simp only [beq_eq_false_iff_ne, ne_eq]; omega
    obtain ⟨qd, hqd⟩ : ∃ q, (s.drop (b + 1)).head? = q := ⟨_, rfl⟩
    rw [hqd] at hpi2
    -- the second byte
    have hql : (b + 1 < s.length ∧ ∃ D : Nat, qd = some (UInt8.ofNat D) ∧ D < 256 ∧ ∀ h : b + 1 < (⟨s.toArray⟩ : ByteArray).size, ((⟨s.toArray⟩ : ByteArray)[b + 1]'h).toNat = D) ∨ (¬ b + 1 < s.length ∧ qd = none) := by
      by_cases hb1 : b + 1 < s.length
      · refine .inl ⟨hb1, s[b + 1].toNat, ?_, s[b + 1].toNat_lt, fun h => by rw [ba_at hb1 h]⟩
        rw [← hqd, List.drop_eq_getElem_cons hb1]
        simp
      · exact .inr ⟨hb1, by rw [← hqd, List.drop_eq_nil_of_le (by omega)]; rfl⟩
    obtain ⟨K1, hK1⟩ : ∃ K, decide (B = 40 ∨ B = 41 ∨ B = 61 ∨ B = 60 ∨ B = 62) = K := ⟨_, rfl⟩
    obtain ⟨K2, hK2⟩ : ∃ K, decide ((B = 33 ∨ B = 60 ∨ B = 62) ∧ qd = some 61) = K := ⟨_, rfl⟩
    obtain ⟨n1, hn1⟩ : ∃ n : Nat, (if K1 = true then 1 else 0) = n := ⟨_, rfl⟩
    obtain ⟨nn, hnn⟩ : ∃ n : Nat, (if K2 = true then 2 else n1) = n := ⟨_, rfl⟩
    have hcn : ∀ k : UInt8, cc = k ↔ B = k.toNat := fun k => by rw [← hB']; exact UInt8.toNat_inj.symm
    have hsg : sgn cc qd = nn := by
      rw [← hnn, ← hn1, ← hK1, ← hK2]
      unfold sgn
      simp only [hcn, decide_eq_true_eq]
      rfl
    have hnl : nn ≤ 2 ∧ (nn = 2 → b + 1 < s.length) := by
      rw [← hnn, ← hn1]
      refine ⟨by split <;> (try split) <;> omega, fun h => ?_⟩
      split at h
      · rename_i h2
        rw [← hK2, decide_eq_true_eq] at h2
        rcases hql with ⟨h3, _⟩ | ⟨_, h3⟩
        · exact h3
        · rw [h3] at h2; simp at h2
      · split at h <;> omega
    rw [hsg] at hpi2
    have hbs : b + nn ≤ s.length := by
      rcases (by omega : nn = 0 ∨ nn = 1 ∨ nn = 2) with h | h | h
      · omega
      · omega
      · have := hnl.2 h; omega
    have hn2 := hnl.1
    clear hd hby hcc hsg hqd hnl
    replace hpi2 := Lib.hid hpi2
    replace hnn := Lib.hid hnn
    replace hn1 := Lib.hid hn1
    replace hK1 := Lib.hid hK1
    replace hK2 := Lib.hid hK2
    replace hql := Lib.hid hql
    replace hcn := Lib.hid hcn
    replace hB' := Lib.hid hB'
    go_upto_region 7 with fail
    go_cut [73] from 68 to 72 (fun sx wx => sx = .bool false ∧ w2 = wx)
    case first => as_aux_lemma =>
      go_wp2_with fail
      all_goals go_meet
      all_goals exact ⟨(by first | rfl | (exact congrArg Value.bool (decide_eq_false (by omega))) | (simp; omega)), rfl⟩
    case rest =>
    obtain ⟨rfl, rfl⟩ := hcut
    go_upto_region 14 with fail
    go_cut [167] from 162 to 166 (fun sx wx => sx = .bool false ∧ w2 = wx)
    case first => as_aux_lemma =>
      go_wp2_with fail
      all_goals go_meet
      all_goals exact ⟨(by first | rfl | (exact congrArg Value.bool (decide_eq_false (by omega))) | (simp; omega)), rfl⟩
    case rest =>
    obtain ⟨rfl, rfl⟩ := hcut
    go_upto_region 27 with fail
    go_cut [240] from 223 to 239 (fun sx wx => sx = .bool K1 ∧ w2 = wx)
    case first => as_aux_lemma =>
      have hk := hK1.out
      by_cases h1 : B = 40
      · subst h1; go_wp2_with fail; go_meet; exact ⟨by rw [← hk]; rfl, rfl⟩
      by_cases h2 : B = 41
      · subst h2; go_wp2_with fail; go_meet; exact ⟨by rw [← hk]; rfl, rfl⟩
      by_cases h3 : B = 61
      · subst h3; go_wp2_with fail; go_meet; exact ⟨by rw [← hk]; rfl, rfl⟩
      by_cases h4 : B = 60
      · subst h4; go_wp2_with fail; go_meet; exact ⟨by rw [← hk]; rfl, rfl⟩
      by_cases h5 : B = 62
      · subst h5; go_wp2_with fail; go_meet; exact ⟨by rw [← hk]; rfl, rfl⟩
      have t1 : ((B : Int) == 40) = false := by simp only [beq_eq_false_iff_ne, ne_eq]; omega
      have t2 : ((B : Int) == 41) = false := by simp only [beq_eq_false_iff_ne, ne_eq]; omega
      have t3 : ((B : Int) == 61) = false := by simp only [beq_eq_false_iff_ne, ne_eq]; omega
      have t4 : ((B : Int) == 60) = false := by simp only [beq_eq_false_iff_ne, ne_eq]; omega
      have t5 : ((B : Int) == 62) = false := by simp only [beq_eq_false_iff_ne, ne_eq]; omega
      have hkf : K1 = false := by rw [← hk, decide_eq_false_iff_not]; omega
      clear hk
      go_wp2_with fail; go_meet; exact ⟨by rw [hkf], rfl⟩
    case rest =>
    obtain ⟨rfl, rfl⟩ := hcut
    go_upto_if 240 with fail
    go_cut [11] (fun sx wx => sx = .int .i64 (n1 : Int) ∧ w2 = wx)
    case first => as_aux_lemma =>
      have hn := hn1.out
      cases K1
      · go_wp2_with fail; go_meet; exact ⟨by rw [← hn]; rfl, rfl⟩
      · go_wp2_with fail; go_meet; exact ⟨by rw [← hn]; rfl, rfl⟩
    case rest =>
    obtain ⟨rfl, rfl⟩ := hcut
    go_upto_region 29 with fail
    go_cut [270] from 241 to 269 (fun sx wx => sx = .bool K2 ∧ w2 = wx)
    case first => as_aux_lemma =>
      have hk := hK2.out
      rcases hql.out with ⟨hb1, D, hD, hD2, hDb⟩ | ⟨hb1, hD⟩
      · have ql : decide ((b : Int) + 1 < s.length) = true := by rw [decide_eq_true_eq]; omega
        have hby1 := hDb (by rw [ba_size]; exact hb1)
        have hkk : K2 = ((B == 33 || B == 60 || B == 62) && D == 61) := by
          rw [← hk, hD]
          have : (some (UInt8.ofNat D) = some 61) ↔ D = 61 := by
            rw [Option.some.injEq, ← UInt8.toNat_inj]
            simp
            omega
          rw [Bool.eq_iff_iff]
          simp only [decide_eq_true_eq, this, Bool.and_eq_true, Bool.or_eq_true, beq_iff_eq, or_assoc]
        clear hk hD hDb
        by_cases h61 : D = 61
        · subst h61
          by_cases h1 : B = 33
          · subst h1; go_wp2_with fail; go_meet; exact ⟨by rw [hkk]; rfl, rfl⟩
          by_cases h2 : B = 60
          · subst h2; go_wp2_with fail; go_meet; exact ⟨by rw [hkk]; rfl, rfl⟩
          by_cases h3 : B = 62
          · subst h3; go_wp2_with fail; go_meet; exact ⟨by rw [hkk]; rfl, rfl⟩
          have t1 : ((B : Int) == 33) = false := by simp only [beq_eq_false_iff_ne, ne_eq]; omega
          have t2 : ((B : Int) == 60) = false := by simp only [beq_eq_false_iff_ne, ne_eq]; omega
          have t3 : ((B : Int) == 62) = false := by simp only [beq_eq_false_iff_ne, ne_eq]; omega
          have hkf : K2 = false := by rw [hkk]; simp [h1, h2, h3]
          clear hkk
          go_wp2_with fail; go_meet; exact ⟨by rw [hkf], rfl⟩
        · have t0 : ((D : Int) == 61) = false := by simp only [beq_eq_false_iff_ne, ne_eq]; omega
          have hkf : K2 = false := by rw [hkk]; simp [h61]
          clear hkk
          by_cases h1 : B = 33
          · subst h1; go_wp2_with fail; go_meet; exact ⟨by rw [hkf], rfl⟩
          by_cases h2 : B = 60
          · subst h2; go_wp2_with fail; go_meet; exact ⟨by rw [hkf], rfl⟩
          by_cases h3 : B = 62
          · subst h3; go_wp2_with fail; go_meet; exact ⟨by rw [hkf], rfl⟩
          have t1 : ((B : Int) == 33) = false := by simp only [beq_eq_false_iff_ne, ne_eq]; omega
          have t2 : ((B : Int) == 60) = false := by simp only [beq_eq_false_iff_ne, ne_eq]; omega
          have t3 : ((B : Int) == 62) = false := by simp only [beq_eq_false_iff_ne, ne_eq]; omega
          go_wp2_with fail; go_meet; exact ⟨by rw [hkf], rfl⟩
      · have ql : decide ((b : Int) + 1 < s.length) = false := by rw [decide_eq_false_iff_not]; omega
        have hkf : K2 = false := by rw [← hk, hD, decide_eq_false_iff_not]; simp
        clear hk hD
        by_cases h1 : B = 33
        · subst h1; go_wp2_with fail; go_meet; exact ⟨by rw [hkf], rfl⟩
        by_cases h2 : B = 60
        · subst h2; go_wp2_with fail; go_meet; exact ⟨by rw [hkf], rfl⟩
        by_cases h3 : B = 62
        · subst h3; go_wp2_with fail; go_meet; exact ⟨by rw [hkf], rfl⟩
        have t1 : ((B : Int) == 33) = false := by simp only [beq_eq_false_iff_ne, ne_eq]; omega
        have t2 : ((B : Int) == 60) = false := by simp only [beq_eq_false_iff_ne, ne_eq]; omega
        have t3 : ((B : Int) == 62) = false := by simp only [beq_eq_false_iff_ne, ne_eq]; omega
        go_wp2_with fail; go_meet; exact ⟨by rw [hkf], rfl⟩
    case rest =>
    obtain ⟨rfl, rfl⟩ := hcut
    go_upto_if 270 with fail
    go_cut [11] (fun sx wx => sx = .int .i64 (nn : Int) ∧ w2 = wx)
    case first => as_aux_lemma =>
      have hn := hnn.out
      cases K2
      · go_wp2_with fail; go_meet; exact ⟨by rw [← hn]; rfl, rfl⟩
      · go_wp2_with fail; go_meet; exact ⟨by rw [← hn]; rfl, rfl⟩
    case rest =>
    obtain ⟨rfl, rfl⟩ := hcut
    by_cases hz : nn = 0
    · as_aux_lemma =>
      have hno2 := Lib.hid (hno.out (by rw [hpi2.out, if_pos hz]))
      clear hno hpi2
      subst hz
      go_wp2_with (go_at_call 36; refine hno2.out.mono ?_; rintro e w11 ⟨rfl, hfin⟩)
      all_goals (first | go_end0 | refine bodyPost_ret (results_none rfl _ _ _) rfl ?_)
      all_goals exact hfin
    · as_aux_lemma =>
      have hpi3 : ∃ K, (K = 4 ∨ K = 5) ∧ p.next s = .ok ⟨⟨K, b, 0, (s.drop b).take nn⟩, b + nn, p.deep⟩ := by
        refine ⟨_, ?_, by rw [hpi2.out, if_neg hz]⟩
        split
        · exact .inr rfl
        · exact .inl rfl
      obtain ⟨K, hK, hpi3⟩ := hpi3
      have qz : ((nn : Int) == 0) = false := by simp only [beq_eq_false_iff_ne, ne_eq]; omega
      have hwr : IntKind.i64.wrap ((b : Int) + (nn : Int)) = (b : Int) + (nn : Int) := IntWalk.i64_in _ (by omega)
      have hP3 := RAt.at hP1.out (b + nn)
      have hO3 := Oly.set hO1.out 1 (.int .i64 ((b + nn : Nat) : Int))
      obtain ⟨w3, hw3⟩ : ∃ w3, w2.setCell ⟨g, 1, none⟩ (.int .i64 ((b : Int) + (nn : Int))) = w3 := ⟨_, rfl⟩
      have ecast : ((b + nn : Nat) : Int) = (b : Int) + (nn : Int) := by omega
      rw [ecast] at hP3 hO3
      rw [hw3] at hP3 hO3
      replace hw3 := Lib.hid hw3
      obtain ⟨c0, c1, c2, c3, c4, c5, c6, c7, c8, c9⟩ := RAt.facts hP3
      simp only at c1 c2 c3 c4 c5 c6 c7 c8 c9
      rw [ecast] at c1
      obtain ⟨f1, f2, f3, f4, f5, f6, f7⟩ := RAt.frees hP3
      have hgl3 := hP3.lt
      have hs0 : (0 : Int) ≤ b := by omega
      have hs1 : (b : Int) ≤ (b : Int) + (nn : Int) := by omega
      have hs2 : (b : Int) + (nn : Int) ≤ s.length := by omega
      have hx : (⟨s.toArray⟩ : ByteArray).extract b (b + nn) = ⟨((s.drop b).take nn).toArray⟩ := by have := ext_list s b (b + nn); rwa [Nat.add_sub_cancel_left] at this
      have hr := Lib.hid (RNext.ok hpi3 (Good.mk' (RAt.piece (Blk.drew hP3) 4 b ((s.drop b).take nn) 0 none 0 0) rfl (by rcases hK with rfl | rfl <;> rfl) rfl (by rcases hK with rfl | rfl <;> rfl) rfl hr2.out hr4.out hr3.out (fun h => by rcases hK with rfl | rfl <;> cases h)) (Oly.rpiece (Only.drew hO3) (.int .i64 4) (.int .i64 (b : Int)) (strV ((s.drop b).take nn)) (.int .i64 0) (.slice none 0 0)))
      generalize (s.drop b).take nn = tk at *
      clear hpi3 hP3 hO3 hz hpi2 hno ecast
      go_upto_region 34 with fail
      rw [hw3.out]
      clear d0 d1 d2 d3 d4 d5 d6 d7 d8 d9 j1 j2 j3 j4 j5 j6 j7 hgl2
      go_still_tail 15, (by kernel_rfl)
      change wpList _ _ _ _ _ w3.drew
      go_wp2_with fail
      all_goals (first | go_end0 | refine bodyPost_ret (results_none rfl _ _ _) rfl ?_)
      all_goals exact hr.out
end Go.Proofs.YtcjcflmnghhbaaaGreat
