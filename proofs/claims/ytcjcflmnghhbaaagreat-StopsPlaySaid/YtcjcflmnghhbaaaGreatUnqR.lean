/-
  The contract of the reference's Unquote, of chapter 04.
  Conditions: as each theorem states them.
-/
import Derived.Test.YtcjcflmnghhbaaaGreatMarkQu
import Derived.Deep.CutBlock
import Derived.Deep.DeepCutAuto
namespace Go.Proofs.YtcjcflmnghhbaaaGreat.SH
open Go.Proofs.YtcjcflmnghhbaaaGreat
open Go.RowKit
set_option linter.unusedVariables false
set_option linter.unusedSimpArgs false
def hitB (c : Nat) (d : UInt8) : Bool := (markS (UInt8.ofNat c)).length == 2 && (markS (UInt8.ofNat c)).getD 1 0 == d
def oneTo (d : UInt8) : Nat → Int
  | 0 => -1
  | k + 1 => if hitB k d = true then (k : Int) else oneTo d k
theorem hit_none {c : Nat} (hc : c < 256) (h1 : c ≠ 92) (h2 : ¬ (7 ≤ c ∧ c < 14)) : (markS (UInt8.ofNat c)).length ≠ 2 := by
  unfold markS
  rw [ofNat_toNat hc, if_neg h1, if_neg h2]
  split <;> simp [oct3]
theorem hit_no {c : Nat} (hc : c < 256) (h1 : c ≠ 92) (h2 : ¬ (7 ≤ c ∧ c < 14)) (d : UInt8) : hitB c d = false := by
  unfold hitB
  have := hit_none hc h1 h2
  rw [Bool.and_eq_false_iff]; left; simpa using this
theorem one_low (d : UInt8) : ∀ n, n ≤ 7 → oneTo d n = -1 := by
  intro n
  induction n with
  | zero => intro _; rfl
  | succ n ih => intro h; rw [oneTo, hit_no (by omega) (by omega) (by omega), if_neg (by simp)]; exact ih (by omega)
theorem one_mid (d : UInt8) : oneTo d 14 = match lettersW.findIdx? (· == d) with | some k => 7 + (k : Int) | none => -1 := by
  have h7 := one_low d 7 (by omega)
  have e : ∀ c : Nat, 7 ≤ c → c < 14 → hitB c d = (lettersW.getD (c - 7) 0 == d) := by
    intro c a b
    unfold hitB markS
    rw [ofNat_toNat (by omega), if_neg (by omega), if_pos ⟨a, b⟩]
    rfl
  simp only [oneTo] at *
  rw [e 13 (by omega) (by omega), e 12 (by omega) (by omega), e 11 (by omega) (by omega), e 10 (by omega) (by omega), e 9 (by omega) (by omega), e 8 (by omega) (by omega), e 7 (by omega) (by omega)]
  rw [hit_no (c := 6) (by omega) (by omega) (by omega), hit_no (c := 5) (by omega) (by omega) (by omega), hit_no (c := 4) (by omega) (by omega) (by omega), hit_no (c := 3) (by omega) (by omega) (by omega), hit_no (c := 2) (by omega) (by omega) (by omega), hit_no (c := 1) (by omega) (by omega) (by omega), hit_no (c := 0) (by omega) (by omega) (by omega)]
  by_cases d0 : (97 : UInt8) = d
  · subst d0; decide
  · by_cases d1 : (98 : UInt8) = d
    · subst d1; decide
    · by_cases d2 : (116 : UInt8) = d
      · subst d2; decide
      · by_cases d3 : (110 : UInt8) = d
        · subst d3; decide
        · by_cases d4 : (118 : UInt8) = d
          · subst d4; decide
          · by_cases d5 : (102 : UInt8) = d
            · subst d5; decide
            · by_cases d6 : (114 : UInt8) = d
              · subst d6; decide
              · simp [lettersW, List.findIdx?_cons, d0, d1, d2, d3, d4, d5, d6]
theorem one_high (d : UInt8) : ∀ n, n ≤ 242 → oneTo d (14 + n) = if 92 < 14 + n ∧ d = 92 then 92 else oneTo d 14 := by
  intro n
  induction n with
  | zero => intro _; rw [if_neg (fun h => absurd h.1 (by omega))]
  | succ n ih =>
    intro h
    rw [show 14 + (n + 1) = (14 + n) + 1 by omega, oneTo, ih (by omega)]
    by_cases h92 : 14 + n = 92
    · rw [h92]
      have : hitB 92 d = ((92 : UInt8) == d) := rfl
      by_cases hd : d = 92
      · subst hd
        rw [if_pos (show hitB 92 92 = true by rw [this]; rfl), if_pos ⟨by omega, rfl⟩]; rfl
      · rw [if_neg (show ¬ hitB 92 d = true by rw [this]; simp; exact fun e => hd e.symm), if_neg (fun e => hd e.2), if_neg (fun e => hd e.2)]
    · rw [hit_no (by omega) h92 (by omega), if_neg (by simp)]
      by_cases hd : d = 92
      · by_cases hl : 92 < 14 + n
        · rw [if_pos ⟨hl, hd⟩, if_pos ⟨by omega, hd⟩]
        · rw [if_neg (fun e => hl e.1), if_neg (fun e => by omega)]
      · rw [if_neg (fun e => hd e.2), if_neg (fun e => hd e.2)]
/-- what the search over all bytes finds -/
theorem one_all (d : UInt8) : oneTo d 256 = if d = 92 then 92 else match lettersW.findIdx? (· == d) with | some k => 7 + (k : Int) | none => -1 := by
  have h := one_high d 242 (by omega)
  rw [show 14 + 242 = 256 from rfl] at h
  rw [h, one_mid]
  by_cases hd : d = 92
  · rw [if_pos ⟨by omega, hd⟩, if_pos hd]
  · rw [if_neg (fun e => hd e.2), if_neg hd]
theorem find_lt {d : UInt8} {k : Nat} (h : lettersW.findIdx? (· == d) = some k) : k < 7 := by
  obtain ⟨hi, _⟩ := List.findIdx?_eq_some_iff_getElem.1 h
  exact hi
/-- .. and with the quote's own byte -/
theorem one_is (d : UInt8) : (∃ x, oneS d = some x ∧ (if d = 34 then (34 : Int) else oneTo d 256) = (x.toNat : Int)) ∨ (oneS d = none ∧ d ≠ 34 ∧ oneTo d 256 = -1) := by
  by_cases h34 : d = 34
  · subst h34; exact .inl ⟨34, rfl, rfl⟩
  · rw [if_neg h34, one_all]
    unfold oneS
    rw [if_neg h34]
    by_cases h92 : d = 92
    · subst h92; exact .inl ⟨92, rfl, rfl⟩
    · rw [if_neg h92, if_neg h92]
      cases hf : lettersW.findIdx? (· == d) with
      | none => exact .inr ⟨rfl, h34, rfl⟩
      | some k =>
        have := find_lt hf
        exact .inl ⟨UInt8.ofNat (7 + k), rfl, by simp only; rw [ofNat_toNat (by omega)]; omega⟩
theorem own_blw {w w' : World} {base e k : Nat} {v : Value} {xs : List Value} (h : w.ownsRow base e 1 v k xs) (hb : Below w.heap.size w w') : w'.ownsRow base e 1 v k xs := by
  obtain ⟨hl, h⟩ := h
  rcases h with ⟨rfl, rfl⟩ | ⟨g, cap, cur, rfl, hg, hb', hk, hc, hs, rfl⟩
  · exact ⟨hl, .inl ⟨rfl, rfl⟩⟩
  · exact ⟨hl, .inr ⟨g, cap, cur, rfl, hg, (hb.block g (Array.getElem?_eq_some_iff.1 hb').1).trans hb', hk, hc, hs, rfl⟩⟩
/-- what Unquote answers -/
def UnqIs (R : List UInt8 × Int × Int) (w : World) (e : Ending) (w' : World) : Prop := ∃ v, e = .returned (.tuple #[v, .int .i64 R.2.1, .int .i64 R.2.2]) ∧ w'.ownsRow w.heap.size 5 1 v R.1.length (Lib.byteCells R.1) ∧ Below w.heap.size w w'
theorem UnqIs.mk {R : List UInt8 × Int × Int} {w w' : World} {v : Value} {l : List UInt8} {p c : Int} (h : R = (l, p, c)) (ho : w'.ownsRow w.heap.size 5 1 v l.length (Lib.byteCells l)) (hb : Below w.heap.size w w') : UnqIs R w (.returned (.tuple #[v, .int .i64 p, .int .i64 c])) w' := by
  subst h; exact ⟨v, rfl, ho, hb⟩
theorem UnqIs.err {R : List UInt8 × Int × Int} {w w' : World} {c : Int} (h : R = ([], 0, c)) (hb : Below w.heap.size w w') : UnqIs R w (.returned (.tuple #[.slice none 0 0, .int .i64 0, .int .i64 c])) w' :=
  UnqIs.mk h (World.ownsRow_nil _ _ _ _) hb
def octG : Nat → Nat → List UInt8 → Except Int UInt8
  | 0, n, _ => if 255 < n then .error 10 else .ok (UInt8.ofNat n)
  | _ + 1, _, [] => .error 2
  | m + 1, n, c :: r => if octB c = false then .error 10 else octG m (n * 8 + (c.toNat - 48)) r
theorem octG_three (s : List UInt8) : octG 3 0 s = octS s := by
  unfold octS
  cases s with
  | nil => rfl
  | cons a r =>
    simp only [octG]
    split
    · rfl
    · cases r with
      | nil => rfl
      | cons b q =>
        simp only [octG]
        split
        · rfl
        · cases q with
          | nil => rfl
          | cons c t =>
            simp only [octG]
            split
            · rfl
            · rw [show ((0 * 8 + (a.toNat - 48)) * 8 + (b.toNat - 48)) * 8 + (c.toNat - 48) = (a.toNat - 48) * 64 + (b.toNat - 48) * 8 + (c.toNat - 48) by omega]
def LqR (s : List UInt8) (w : World) (R : List UInt8 × Int × Int) (gh : Nat) (v i : Value) (wr : World) : Prop := ∃ (k : Nat) (out : List UInt8), gh = s.length - k ∧ i = .int .i64 (k : Int) ∧ k ≤ s.length ∧ out.length ≤ k ∧ unqS out k (s.drop k) = R ∧ wr.ownsRow w.heap.size 5 1 v out.length (Lib.byteCells out) ∧ Below w.heap.size w wr
theorem lq_snoc {s : List UInt8} {w wr w1 : World} {R : List UInt8 × Int × Int} {gh k k2 : Nat} {out : List UInt8} {x : UInt8} {v v1 : Value} {o : Obj} (hg : gh = s.length - k2) (hk : k2 ≤ s.length) (hkk : k < k2) (hl : out.length ≤ k) (hR : unqS (out ++ [x]) k2 (s.drop k2) = R)
    (hown : wr.ownsRow w.heap.size 5 1 v out.length (Lib.byteCells out)) (ho : w1.ownsRow w.heap.size 5 1 v1 (out.length + 1) (Lib.byteCells out ++ [.int .u8 (x.toNat : Int)])) (hb : Below w.heap.size w wr) (hgr : (wr.alloc o).grownBy w1 v.ownBlock) : LqR s w R gh v1 (.int .i64 (k2 : Int)) w1 := by
  refine ⟨k2, out ++ [x], hg, rfl, hk, by simp; omega, hR, ?_, ?_⟩
  · rw [byteCells_app, List.length_append]; exact ho
  · exact (hb.alloc (by have := hb.size; omega) _).grown hgr (by have := hb.size; simp; omega) (fun j hj => (hown.lt j hj).1)
set_option maxHeartbeats 4000000 in
set_option maxRecDepth 100000 in
theorem runquote_any (s : List UInt8) (at_ : Int) (hat : at_ ≤ 9223372036854775807) (hl : s.length ≤ 100000) (w : World) :
    Calls Tryz.prog 57 #[strV s, .int .i64 at_] w (UnqIs (unquoteS s at_) w) := by
  obtain ⟨i0, hi, hz0, hz1, hz2⟩ := info_parts infoByteB
  have hmk := Lib.hid (fun (c : UInt8) (W : World) => rmark_any c W)
  by_cases h1 : at_ < 0 ∨ (s.length : Int) < at_
  · have hR : unquoteS s at_ = ([], 0, 1) := by unfold unquoteS; rw [if_pos h1]
    rw [hR]
    rcases h1 with h1 | h1
    · have q1 : decide (at_ < 0) = true := by simpa using h1
      go_enter Tryz.func57, Tryz.ntmps57
      go_wp2_with fail
      go_ret3
      exact UnqIs.err rfl (Below.refl _ _)
    · have q1 : decide (at_ < 0) = false := by rw [decide_eq_false_iff_not]; omega
      have q2 : decide ((s.length : Int) < at_) = true := by simpa using h1
      go_enter Tryz.func57, Tryz.ntmps57
      go_wp2_with fail
      go_ret3
      exact UnqIs.err rfl (Below.refl _ _)
  · obtain ⟨a, rfl⟩ : ∃ a : Nat, at_ = a := ⟨at_.toNat, by omega⟩
    have ha : a ≤ s.length := by omega
    have q2 : decide (s.length < a) = false := by rw [decide_eq_false_iff_not]; omega
    by_cases h2 : a = s.length
    · have hR : unquoteS s (a : Int) = ([], 0, 9) := by unfold unquoteS; rw [if_neg h1, Int.toNat_natCast, h2, List.drop_length]
      rw [hR]
      have q3 : ((a : Int) == s.length) = true := by simp; omega
      clear h1 hR
      go_enter Tryz.func57, Tryz.ntmps57
      go_wp2_with fail
      go_ret3
      exact UnqIs.err rfl (Below.refl _ _)
    · have h3 : a < s.length := by omega
      have q3 : ((a : Int) == s.length) = false := by simp; omega
      have hby := ba_at h3 (by rw [ba_size]; exact h3)
      have hd : s.drop a = s[a] :: s.drop (a + 1) := List.drop_eq_getElem_cons h3
      by_cases h4 : s[a] = 34
      · have q4 : (((⟨s.toArray⟩ : ByteArray)[a]'(by rw [ba_size]; exact h3)).toNat : Int) = 34 := by rw [hby, h4]; rfl
        obtain ⟨R, hR⟩ : ∃ R, unquoteS s (a : Int) = R := ⟨_, rfl⟩
        have hR0 : unqS [] (a + 1) (s.drop (a + 1)) = R := by
          rw [← hR]; unfold unquoteS; rw [if_neg h1, Int.toNat_natCast, hd]; simp only; rw [if_neg (by simpa using h4)]
        rw [hR]
        replace hR0 := Lib.hid hR0
        clear hR h1 hd h4 hby h2
        go_enter Tryz.func57, Tryz.ntmps57
        go_wp2_with fail
        go_loopg [7, 8] (s.length - (a + 1)) (fun gh v i wr => LqR s w R gh v i wr)
        case atStart => exact ⟨a + 1, [], rfl, by go_num, by omega, by simp, hR0.out, World.ownsRow_nil _ _ _ _, Below.refl _ _⟩
        case round =>
          clear q2 q3 q4 hR0 h3 ha
          obtain ⟨k, out, rfl, rfl, hk, hol, hun, hown, hb⟩ := hrel
          have hsize := hb.size
          by_cases hlt : k < s.length
          · have hby := ba_at hlt (by rw [ba_size]; exact hlt)
            have hdk : s.drop k = s[k] :: s.drop (k + 1) := List.drop_eq_getElem_cons hlt
            rw [hdk] at hun
            by_cases c34 : s[k] = 34
            · have q4 : (((⟨s.toArray⟩ : ByteArray)[k]'(by rw [ba_size]; exact hlt)).toNat : Int) = 34 := by rw [hby, c34]; rfl
              rw [c34, unqS_end] at hun
              replace hun := Lib.hid hun
              clear hby hdk c34
              go_wp2_with fail
              go_ret3
              exact UnqIs.mk hun.out.symm hown hb
            · have q4 : ((((⟨s.toArray⟩ : ByteArray)[k]'(by rw [ba_size]; exact hlt)).toNat : Int) == 34) = false := by
                rw [hby]; simp only [beq_eq_false_iff_ne, ne_eq]; intro e; exact c34 (UInt8.toNat_inj.1 (by rw [show (34 : UInt8).toNat = 34 from rfl]; omega))
              by_cases c92 : s[k] = 92
              · have q5 : (((⟨s.toArray⟩ : ByteArray)[k]'(by rw [ba_size]; exact hlt)).toNat : Int) = 92 := by rw [hby, c92]; rfl
                rw [c92] at hun
                clear q4 hby hdk c34 c92
                by_cases hk1 : k + 1 = s.length
                · have q6 : ((k : Int) + 1 == s.length) = true := by simp; omega
                  rw [hk1, List.drop_length, unqS_err out k [] 2 rfl] at hun
                  replace hun := Lib.hid hun
                  clear hk1
                  go_wp2_with fail
                  go_ret3
                  exact UnqIs.err hun.out.symm hb
                · have hlt1 : k + 1 < s.length := by omega
                  have q6 : ((k : Int) + 1 == s.length) = false := by simp; omega
                  have hby1 := ba_at hlt1 (by rw [ba_size]; exact hlt1)
                  have hdk1 : s.drop (k + 1) = s[k + 1] :: s.drop (k + 1 + 1) := List.drop_eq_getElem_cons hlt1
                  obtain ⟨d, hd⟩ : ∃ d, s[k + 1] = d := ⟨_, rfl⟩
                  rw [hd] at hby1 hdk1
                  obtain ⟨z, hz⟩ : ∃ z, (⟨s.toArray⟩ : ByteArray)[k + 1]'(by rw [ba_size]; exact hlt1) = z := ⟨_, rfl⟩
                  rw [hz] at hby1
                  subst hby1
                  replace hun := Lib.hid hun
                  replace hdk1 := Lib.hid hdk1
                  clear hd hk1
                  go_wp2_with fail
                  obtain ⟨wo, rfl⟩ : ∃ wo : World, wo = wr := ⟨_, rfl⟩
                  go_loopg [9, 10] 256 (fun gh o c wr => ∃ j : Nat, gh = 256 - j ∧ c = .int .i64 (j : Int) ∧ j ≤ 256 ∧ o = .int .i64 (oneTo z j) ∧ Below wo.heap.size wo wr)
                  case atStart => exact ⟨0, rfl, rfl, by omega, rfl, Below.refl _ _⟩
                  case round =>
                    obtain ⟨j, rfl, rfl, hj, rfl, hb2⟩ := hrel
                    by_cases hj2 : j < 256
                    · have hw : IntKind.u8.wrap (j : Int) = j := wrap_u8_id (by omega)
                      have hm := fun W => hmk.out (UInt8.ofNat j) W
                      rw [ofNat_toNat hj2] at hm
                      have hstep : oneTo z (j + 1) = if hitB j z = true then (j : Int) else oneTo z j := rfl
                      unfold hitB at hstep
                      obtain ⟨M, hM⟩ : ∃ M, markS (UInt8.ofNat j) = M := ⟨_, rfl⟩
                      rw [hM] at hm hstep
                      generalize oneTo z j = O at *
                      generalize hO1 : oneTo z (j + 1) = O1 at *
                      replace hO1 := Lib.hid hO1
                      replace hm := Lib.hid hm
                      clear hM
                      by_cases hM2 : M.length = 2
                      · obtain ⟨m0, m1, rfl⟩ : ∃ m0 m1, M = [m0, m1] := by
                          match M, hM2 with
                          | [m0, m1], _ => exact ⟨m0, m1, rfl⟩
                        clear hM2
                        have h2s : 1 < (⟨#[m0, m1]⟩ : ByteArray).size := by show 1 < #[m0, m1].size; simp
                        have hg : (⟨#[m0, m1]⟩ : ByteArray)[1]'h2s = m1 := rfl
                        by_cases hmz : m1 = z
                        · subst hmz
                          have hs1 : O1 = (j : Int) := by rw [hstep]; simp
                          have q7 : ((((⟨#[m0, m1]⟩ : ByteArray)[1]'h2s).toNat : Int) == (m1.toNat : Int)) = true := by rw [hg]; simp
                          replace hg := Lib.hid hg
                          replace hs1 := Lib.hid hs1
                          clear hstep
                          go_upto_region 21 with (go_at_call 69; refine (hm.out _).mono ?_; rintro e w7 ⟨rfl, hb7⟩)
                          go_quiet (fail)
                          go_wp2_with fail
                          all_goals go_roundg (256 - (j + 1))
                          case measure => omega
                          case rel => exact ⟨j + 1, rfl, by go_num, by omega, by rw [hO1.out, hs1.out], bl_drewN (bl_trans hb2 hb7) _⟩
                        · have hs1 : O1 = O := by rw [hstep]; simp [hmz]
                          have q7 : ((((⟨#[m0, m1]⟩ : ByteArray)[1]'h2s).toNat : Int) == (z.toNat : Int)) = false := by rw [hg, beq_eq_false_iff_ne]; intro e; exact hmz (UInt8.toNat_inj.1 (by omega))
                          replace hg := Lib.hid hg
                          replace hs1 := Lib.hid hs1
                          clear hstep hmz
                          go_upto_region 21 with (go_at_call 69; refine (hm.out _).mono ?_; rintro e w7 ⟨rfl, hb7⟩)
                          go_quiet (fail)
                          go_wp2_with fail
                          all_goals go_roundg (256 - (j + 1))
                          case measure => omega
                          case rel => exact ⟨j + 1, rfl, by go_num, by omega, by rw [hO1.out, hs1.out], bl_drewN (bl_trans hb2 hb7) _⟩
                      · have hs1 : O1 = O := by rw [hstep]; simp [hM2]
                        have q7 : ((M.length : Int) == 2) = false := by simp; omega
                        replace hs1 := Lib.hid hs1
                        clear hstep hM2
                        go_upto_region 21 with (go_at_call 69; refine (hm.out _).mono ?_; rintro e w7 ⟨rfl, hb7⟩)
                        go_quiet (fail)
                        go_wp2_with fail
                        all_goals go_roundg (256 - (j + 1))
                        case measure => omega
                        case rel => exact ⟨j + 1, rfl, by go_num, by omega, by rw [hO1.out, hs1.out], bl_drewN (bl_trans hb2 hb7) _⟩
                    · obtain rfl : j = 256 := by omega
                      have hownr := own_blw hown hb2
                      have hbr := Lib.hid (bl_trans hb hb2)
                      have hszr := hbr.out.size
                      clear hown hb hb2 hj hj2
                      rcases one_is z with ⟨x, hx, hv⟩ | ⟨hx, hz34, hv⟩
                      · have he : escS (s.drop (k + 1)) = .ok (x, 1) := by rw [hdk1.out]; unfold escS; simp only [hx]
                        have hun' := hun.out
                        rw [unqS_esc out k _ x 1 he, List.drop_drop] at hun'
                        replace hun := Lib.hid hun'
                        clear hun' he hx
                        have hxl := UInt8.toNat_lt x
                        have hw : IntKind.u8.wrap (x.toNat : Int) = x.toNat := wrap_u8_id (by omega)
                        by_cases hz34 : z = 34
                        · have q8 : ((z.toNat : Int) == 34) = true := by rw [hz34]; rfl
                          rw [if_pos hz34] at hv
                          have hx34 : x = 34 := UInt8.toNat_inj.1 (by rw [show (34 : UInt8).toNat = 34 from rfl]; omega)
                          clear hz34 hv hw
                          generalize oneTo z 256 = O at *
                          subst hx34
                          go_wp2_with (at_builtin; refine wpList_append_own _ rfl (.tmp 88) (.tmp 91) 23 rfl w.heap.size 5 i0 (.int .u8 0) 1 1 Tryz.underlying23 hi hz0 hz1 hz2 rfl (by decide) _ _ _ rfl (hownr.alloc _) ⟨wr.heap.size, 0, none⟩ 1 1 [.int .u8 34] rfl rfl (cell_one_new _ _ _) (by intro u hu; simp at hu; subst hu; rfl) (by unfold maxLen; omega) (by omega) (by simp; omega) ?_; intro v1 w1 hown1 hgrow1 hnil1)
                          all_goals go_roundg (s.length - (k + 1 + 1))
                          case measure => omega
                          case rel => exact lq_snoc (k := k) (k2 := k + 1 + 1) rfl (by omega) (by omega) hol hun.out hownr hown1 hbr.out hgrow1
                        · have q8 : ((z.toNat : Int) == 34) = false := by rw [beq_eq_false_iff_ne]; intro e; exact hz34 (UInt8.toNat_inj.1 (by rw [show (34 : UInt8).toNat = 34 from rfl]; omega))
                          rw [if_neg hz34] at hv
                          rw [hv]
                          have h0 : (0 : Int) ≤ x.toNat := by omega
                          clear hz34 hv
                          go_wp2_with (at_builtin; refine wpList_append_own _ rfl (.tmp 88) (.tmp 91) 23 rfl w.heap.size 5 i0 (.int .u8 0) 1 1 Tryz.underlying23 hi hz0 hz1 hz2 rfl (by decide) _ _ _ rfl (hownr.alloc _) ⟨wr.heap.size, 0, none⟩ 1 1 [.int .u8 (x.toNat : Int)] rfl rfl (cell_one_new _ _ _) (by intro u hu; simp at hu; subst hu; rfl) (by unfold maxLen; omega) (by omega) (by simp; omega) ?_; intro v1 w1 hown1 hgrow1 hnil1)
                          all_goals go_roundg (s.length - (k + 1 + 1))
                          case measure => omega
                          case rel => exact lq_snoc (k := k) (k2 := k + 1 + 1) rfl (by omega) (by omega) hol hun.out hownr hown1 hbr.out hgrow1
                      · have q8 : ((z.toNat : Int) == 34) = false := by rw [beq_eq_false_iff_ne]; intro e; exact hz34 (UInt8.toNat_inj.1 (by rw [show (34 : UInt8).toNat = 34 from rfl]; omega))
                        have hesc : escS (s.drop (k + 1)) = match octG 3 0 (s.drop (k + 1)) with | .ok x => .ok (x, 3) | .error e => .error e := by rw [octG_three, hdk1.out]; unfold escS; simp only [hx]; rfl
                        rw [hv]
                        obtain ⟨G, hG⟩ : ∃ G, octG 3 0 (s.drop (k + 1)) = G := ⟨_, rfl⟩
                        rw [hG] at hesc
                        replace hesc := Lib.hid hesc
                        replace hG := Lib.hid hG
                        clear hz34 hv hx
                        go_wp2_with fail
                        obtain ⟨wp, rfl⟩ : ∃ wp : World, wp = wr := ⟨_, rfl⟩
                        go_loopg [12, 13] 3 (fun gh n c wr => ∃ j m : Nat, gh = 3 - j ∧ c = .int .i64 (j : Int) ∧ j ≤ 3 ∧ n = .int .i64 (m : Int) ∧ m ≤ 1000 ∧ (j = 0 → m = 0) ∧ (j = 1 → m ≤ 7) ∧ (j = 2 → m ≤ 63) ∧ (j = 3 → m ≤ 511) ∧ k + 1 + j ≤ s.length ∧ octG (3 - j) m (s.drop (k + 1 + j)) = G ∧ wp = wr)
                        case atStart => exact ⟨0, 0, rfl, rfl, by omega, rfl, by omega, by omega, by omega, by omega, by omega, by omega, hG.out, rfl⟩
                        case round =>
                          obtain ⟨j, m, rfl, rfl, hj, rfl, hm, b0, b1, b2, b3, hjl, hO, rfl⟩ := hrel
                          by_cases hj3 : j < 3
                          · rw [show 3 - j = (3 - (j + 1)) + 1 by omega] at hO
                            by_cases hin : k + 1 + j < s.length
                            · have q9 : decide ((s.length : Int) ≤ (k : Int) + 1 + j) = false := by rw [decide_eq_false_iff_not]; omega
                              have hby := ba_at hin (by rw [ba_size]; exact hin)
                              rw [List.drop_eq_getElem_cons hin, octG] at hO
                              generalize s[k + 1 + j] = c at *
                              by_cases hc : octB c = true
                              · rw [if_neg (by simp [hc])] at hO
                                simp only [octB, Bool.and_eq_true, decide_eq_true_eq] at hc
                                have qa : 48 ≤ ((⟨s.toArray⟩ : ByteArray)[k + 1 + j]'(by rw [ba_size]; exact hin)).toNat ∧ ((⟨s.toArray⟩ : ByteArray)[k + 1 + j]'(by rw [ba_size]; exact hin)).toNat ≤ 55 := by rw [hby]; omega
                                replace hO := Lib.hid hO
                                have hcc := Lib.hid hc
                                replace hby := Lib.hid hby
                                clear hc
                                go_wp2_with fail
                                all_goals go_roundg (3 - (j + 1))
                                case measure => omega
                                case rel =>
                                  have hc := hcc.out
                                  exact ⟨j + 1, m * 8 + (c.toNat - 48), rfl, by go_num, by omega, by rw [hby.out]; exact congrArg (Value.int .i64) (by omega), by omega, by omega, by omega, by omega, by omega, by omega, by rw [show k + 1 + (j + 1) = k + 1 + j + 1 by omega]; exact hO.out, rfl⟩
                              · rw [if_pos (by simpa using hc)] at hO
                                rw [Bool.not_eq_true] at hc
                                simp only [octB, Bool.and_eq_false_iff, decide_eq_false_iff_not] at hc
                                have hun' := hun.out
                                rw [unqS_err out k _ 10 (by rw [hesc.out, ← hO])] at hun'
                                replace hun := Lib.hid hun'
                                clear hun' hO
                                by_cases hp1 : 48 ≤ c.toNat
                                · have qa : 48 ≤ ((⟨s.toArray⟩ : ByteArray)[k + 1 + j]'(by rw [ba_size]; exact hin)).toNat ∧ 55 < ((⟨s.toArray⟩ : ByteArray)[k + 1 + j]'(by rw [ba_size]; exact hin)).toNat := by rw [hby]; omega
                                  clear hc hp1 hby
                                  go_wp2_with fail
                                  go_ret3
                                  exact UnqIs.err hun.out.symm hbr.out
                                · have qa : ((⟨s.toArray⟩ : ByteArray)[k + 1 + j]'(by rw [ba_size]; exact hin)).toNat < 48 := by rw [hby]; omega
                                  clear hc hp1 hby
                                  go_wp2_with fail
                                  go_ret3
                                  exact UnqIs.err hun.out.symm hbr.out
                            · have q9 : decide ((s.length : Int) ≤ (k : Int) + 1 + j) = true := by rw [decide_eq_true_eq]; omega
                              rw [List.drop_eq_nil_of_le (by omega), octG] at hO
                              have hun' := hun.out
                              rw [unqS_err out k _ 2 (by rw [hesc.out, ← hO])] at hun'
                              replace hun := Lib.hid hun'
                              clear hun' hO
                              go_wp2_with fail
                              go_ret3
                              exact UnqIs.err hun.out.symm hbr.out
                          · obtain rfl : j = 3 := by omega
                            rw [Nat.sub_self, octG] at hO
                            have hm5 := b3 rfl
                            by_cases h255 : 255 < m
                            · rw [if_pos h255] at hO
                              have q9 : decide ((255 : Int) < m) = true := by rw [decide_eq_true_eq]; omega
                              have hun' := hun.out
                              rw [unqS_err out k _ 10 (by rw [hesc.out, ← hO])] at hun'
                              replace hun := Lib.hid hun'
                              clear hun' hO
                              go_wp2_with fail
                              go_ret3
                              exact UnqIs.err hun.out.symm hbr.out
                            · rw [if_neg h255] at hO
                              have q9 : decide ((255 : Int) < m) = false := by rw [decide_eq_false_iff_not]; omega
                              have hun' := hun.out
                              rw [unqS_esc out k _ (UInt8.ofNat m) 3 (by rw [hesc.out, ← hO]), List.drop_drop] at hun'
                              replace hun := Lib.hid hun'
                              clear hun' hO
                              have hm1 : (m : Int) ≤ 255 := by omega
                              have hm0 : (0 : Int) ≤ m := by omega
                              clear q9 h255
                              have q9 : decide ((255 : Int) < m) = false := by rw [decide_eq_false_iff_not]; omega
                              have hw : IntKind.u8.wrap (m : Int) = m := wrap_u8_id (by omega)
                              have hw2 : (m : Int) % 256 = m := by omega
                              go_wp2_with (at_builtin; refine wpList_append_own _ rfl (.tmp 129) (.tmp 132) 23 rfl w.heap.size 5 i0 (.int .u8 0) 1 1 Tryz.underlying23 hi hz0 hz1 hz2 rfl (by decide) _ _ _ rfl (hownr.alloc _) ⟨wp.heap.size, 0, none⟩ 1 1 [.int .u8 (m : Int)] rfl rfl (cell_one_new _ _ _) (by intro u hu; simp at hu; subst hu; rfl) (by unfold maxLen; omega) (by omega) (by simp; omega) ?_; intro v1 w1 hown1 hgrow1 hnil1)
                              all_goals go_roundg (s.length - (k + 1 + 3))
                              case measure => omega
                              case rel => exact lq_snoc (k := k) (k2 := k + 1 + 3) (x := UInt8.ofNat m) rfl (by omega) (by omega) hol hun.out hownr (by rw [ofNat_toNat (by omega)]; exact hown1) hbr.out hgrow1
              · have q5 : ((((⟨s.toArray⟩ : ByteArray)[k]'(by rw [ba_size]; exact hlt)).toNat : Int) == 92) = false := by
                  rw [hby]; simp only [beq_eq_false_iff_ne, ne_eq]; intro e; exact c92 (UInt8.toNat_inj.1 (by rw [show (92 : UInt8).toNat = 92 from rfl]; omega))
                have q6 : ((((⟨s.toArray⟩ : ByteArray)[k]'(by rw [ba_size]; exact hlt)).toNat : Int) != 92) = true := by simp only [bne, q5]; rfl
                rw [unqS_plain _ _ _ _ c34 c92] at hun
                replace hun := Lib.hid hun
                clear hdk c34 c92
                replace hby := Lib.hid hby
                go_wp2_with (at_builtin; refine wpList_append_own _ rfl (.tmp 51) (.tmp 55) 23 rfl w.heap.size 5 i0 (.int .u8 0) 1 1 Tryz.underlying23 hi hz0 hz1 hz2 rfl (by decide) _ _ _ rfl (hown.alloc _) ⟨wr.heap.size, 0, none⟩ 1 1 [.int .u8 (((⟨s.toArray⟩ : ByteArray)[k]'(by rw [ba_size]; exact hlt)).toNat : Int)] rfl rfl (cell_one_new _ _ _) (by intro u hu; simp at hu; subst hu; rfl) (by unfold maxLen; omega) (by omega) (by simp; omega) ?_; intro v1 w1 hown1 hgrow1 hnil1)
                all_goals go_roundg (s.length - (k + 1))
                case measure => omega
                case rel => exact lq_snoc (k := k) (k2 := k + 1) rfl (by omega) (by omega) hol hun.out hown (by rw [← hby.out]; exact hown1) hb hgrow1
          · obtain rfl : k = s.length := by omega
            rw [List.drop_length, unqS_nil] at hun
            replace hun := Lib.hid hun
            go_wp2_with fail
            go_ret3
            exact UnqIs.err hun.out.symm hb
      · have hR : unquoteS s (a : Int) = ([], 0, 9) := by unfold unquoteS; rw [if_neg h1, Int.toNat_natCast, hd]; simp only; rw [if_pos h4]
        rw [hR]
        have q4 : ((((⟨s.toArray⟩ : ByteArray)[a]'(by rw [ba_size]; exact h3)).toNat : Int) == 34) = false := by
          rw [hby]; simp only [beq_eq_false_iff_ne, ne_eq]; intro e; exact h4 (UInt8.toNat_inj.1 (by rw [show (34 : UInt8).toNat = 34 from rfl]; omega))
        have q5 : ((((⟨s.toArray⟩ : ByteArray)[a]'(by rw [ba_size]; exact h3)).toNat : Int) != 34) = true := by simp only [bne, q4]; rfl
        clear h1 hR hd h4 hby h2
        go_enter Tryz.func57, Tryz.ntmps57
        go_wp2_with fail
        go_ret3
        exact UnqIs.err rfl (Below.refl _ _)
end Go.Proofs.YtcjcflmnghhbaaaGreat.SH
