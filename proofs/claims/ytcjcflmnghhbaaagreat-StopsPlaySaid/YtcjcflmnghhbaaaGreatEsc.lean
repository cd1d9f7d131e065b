/-
  show.escape of the program, of chapter 04: what stands behind a backslash.
  Conditions: as each theorem states them.
-/
import Derived.Test.YtcjcflmnghhbaaaGreatUnqD
import Derived.Test.YtcjcflmnghhbaaaGreatShelf
import Derived.Deep.LoopGhost
namespace Go.Proofs.YtcjcflmnghhbaaaGreat
open Go.RowKit
set_option linter.unusedVariables false
set_option linter.unusedSimpArgs false
abbrev strV (x : List UInt8) : Value := .string ⟨x.toArray⟩
theorem ba_size (xs : List UInt8) : (⟨xs.toArray⟩ : ByteArray).size = xs.length := by show xs.toArray.size = _; simp
theorem ba_at {xs : List UInt8} {k : Nat} (h : k < xs.length) (h' : k < (⟨xs.toArray⟩ : ByteArray).size) : (⟨xs.toArray⟩ : ByteArray)[k] = xs[k] := by
  show (xs.toArray)[k] = xs[k]
  simp
theorem ba_list (l : List UInt8) : (⟨l.toArray⟩ : ByteArray).toList = l := by rw [ByteArray.toList_eq]
theorem ofNat_toNat {n : Nat} (h : n < 256) : (UInt8.ofNat n).toNat = n := by simp; omega
theorem wrap_u8_id {n : Int} (h : 0 ≤ n ∧ n ≤ 255) : IntKind.u8.wrap n = n := by
  simp [IntKind.wrap, IntKind.signed, IntKind.bits]
  omega
def octG : Nat → Nat → List UInt8 → Except Int UInt8
  | 0, n, _ => if 255 < n then .error 10 else .ok (UInt8.ofNat n)
  | _ + 1, _, [] => .error 2
  | m + 1, n, c :: r => if octB c = false then .error 10 else octG m (n * 8 + (c.toNat - 48)) r
theorem octG_three (s : List UInt8) : octG 3 0 s = octS s := by
  unfold octS
  cases s with
  | nil => rfl
  | cons a r =>
    simp only [octG]
    split
    · rfl
    · cases r with
      | nil => rfl
      | cons b q =>
        simp only [octG]
        split
        · rfl
        · cases q with
          | nil => rfl
          | cons c t =>
            simp only [octG]
            split
            · rfl
            · rw [show ((0 * 8 + (a.toNat - 48)) * 8 + (b.toNat - 48)) * 8 + (c.toNat - 48) = (a.toNat - 48) * 64 + (b.toNat - 48) * 8 + (c.toNat - 48) by omega]
theorem let_ix (d : UInt8) : Lib.indexByte lettersW d = match lettersW.findIdx? (· == d) with | some k => (k : Int) | none => -1 := by
  have h : ∀ n : Fin 256, Lib.indexByte lettersW (UInt8.ofNat n.val) = match lettersW.findIdx? (· == UInt8.ofNat n.val) with | some k => (k : Int) | none => -1 := by decide +kernel
  have := h ⟨d.toNat, UInt8.toNat_lt d⟩
  simpa using this
theorem find_lt {d : UInt8} {k : Nat} (h : lettersW.findIdx? (· == d) = some k) : k < 7 := by
  obtain ⟨hi, _⟩ := List.findIdx?_eq_some_iff_getElem.1 h
  exact hi
/-- what escape answers -/
def escT (s : List UInt8) : Int × Int × Int := match escS s with | .ok (x, n) => ((x.toNat : Int), (n : Int), 0) | .error e => (0, 0, e)
theorem oct_any (c : UInt8) (w : World) : Calls Tryz.prog 86 #[.int .u8 (c.toNat : Int)] w fun e w' => e = .returned (.bool (octB c)) ∧ w' = w := by
  unfold octB
  by_cases h1 : 48 ≤ c.toNat
  · by_cases h2 : c.toNat ≤ 55
    · rw [decide_eq_true h1, decide_eq_true h2]
      go_enter Tryz.func86, Tryz.ntmps86
      go_wp2_with fail
      all_goals go_ret
      all_goals exact ⟨by first | rfl | (exact ret_bool (by simp; omega)), rfl⟩
    · rw [decide_eq_true h1, decide_eq_false h2]
      go_enter Tryz.func86, Tryz.ntmps86
      go_wp2_with fail
      all_goals go_ret
      all_goals exact ⟨by first | rfl | (exact ret_bool (by simp; omega)), rfl⟩
  · rw [decide_eq_false h1, Bool.false_and]
    go_enter Tryz.func86, Tryz.ntmps86
    go_wp2_with fail
    all_goals go_ret
    all_goals exact ⟨by first | rfl | (exact ret_bool (by simp; omega)), rfl⟩
theorem esc_cons {d : UInt8} {r : List UInt8} : escS (d :: r) = match oneS d with | some x => .ok (x, 1) | none => match octS (d :: r) with | .ok x => .ok (x, 3) | .error e => .error e := rfl
set_option maxHeartbeats 4000000 in
set_option maxRecDepth 100000 in
theorem esc_any (s : List UInt8) (hl : s.length ≤ 100000) (w : World) : Calls Tryz.prog 65 #[strV s] w fun e w' => e = .returned (.tuple #[.int .u8 (escT s).1, .int .i64 (escT s).2.1, .int .i64 (escT s).2.2]) ∧ w' = w := by
  by_cases hn : s = []
  · subst hn
    go_enter Tryz.func65, Tryz.ntmps65
    go_wp2_with fail
    all_goals go_ret3
    all_goals exact ⟨rfl, rfl⟩
  have h0 : 0 < s.length := by cases s <;> simp_all
  have q0 : s.isEmpty = false := by simpa using hn
  have hby := ba_at h0 (by rw [ba_size]; exact h0)
  obtain ⟨d, hd⟩ : ∃ d, s[0] = d := ⟨_, rfl⟩
  obtain ⟨r, hs⟩ : ∃ r, s = d :: r := by
    cases s with
    | nil => simp at h0
    | cons a r => exact ⟨r, by rw [← hd]; rfl⟩
  have hE : escS s = match oneS d with | some x => .ok (x, 1) | none => match octS s with | .ok x => .ok (x, 3) | .error e => .error e := by rw [hs]; exact esc_cons
  rw [hd] at hby
  have hsz : ((s.length : Nat) : Int) ≤ 100000 := by omega
  by_cases c92 : d = 92
  · have q1 : (((⟨s.toArray⟩ : ByteArray)[0]'(by rw [ba_size]; exact h0)).toNat : Int) = 92 := by rw [hby, c92]; rfl
    have hR : escT s = (92, 1, 0) := by unfold escT; rw [hE, c92]; rfl
    rw [hR]
    clear hs hE hR hby hd
    go_enter Tryz.func65, Tryz.ntmps65
    go_wp2_with fail
    all_goals go_ret3
    all_goals exact ⟨rfl, rfl⟩
  by_cases c34 : d = 34
  · have q1 : (((⟨s.toArray⟩ : ByteArray)[0]'(by rw [ba_size]; exact h0)).toNat : Int) = 34 := by rw [hby, c34]; rfl
    have hR : escT s = (34, 1, 0) := by unfold escT; rw [hE, c34]; rfl
    rw [hR]
    clear hs hE hR hby hd
    go_enter Tryz.func65, Tryz.ntmps65
    go_wp2_with fail
    all_goals go_ret3
    all_goals exact ⟨rfl, rfl⟩
  have q1 : ((((⟨s.toArray⟩ : ByteArray)[0]'(by rw [ba_size]; exact h0)).toNat : Int) == 92) = false := by
    rw [hby]; simp only [beq_eq_false_iff_ne, ne_eq]; intro e; exact c92 (UInt8.toNat_inj.1 (by rw [show (92 : UInt8).toNat = 92 from rfl]; omega))
  have q2 : ((((⟨s.toArray⟩ : ByteArray)[0]'(by rw [ba_size]; exact h0)).toNat : Int) == 34) = false := by
    rw [hby]; simp only [beq_eq_false_iff_ne, ne_eq]; intro e; exact c34 (UInt8.toNat_inj.1 (by rw [show (34 : UInt8).toNat = 34 from rfl]; omega))
  have hib : ∀ W, Calls Tryz.prog 85 #[.string ⟨#[97, 98, 116, 110, 118, 102, 114]⟩, .int .u8 (((⟨s.toArray⟩ : ByteArray)[0]'(by rw [ba_size]; exact h0)).toNat : Int)] W fun e w' => e = .returned (.int .i64 (match lettersW.findIdx? (· == d) with | some k => (k : Int) | none => -1)) ∧ w' = W := fun W => by
    have := Tryz.strings_IndexByte ⟨#[97, 98, 116, 110, 118, 102, 114]⟩ (((⟨s.toArray⟩ : ByteArray)[0]'(by rw [ba_size]; exact h0)).toNat : Int) W
    refine this.mono fun e w' h => ⟨?_, h.2⟩
    rw [h.1]
    have e1 : ((((⟨s.toArray⟩ : ByteArray)[0]'(by rw [ba_size]; exact h0)).toNat : Int)).toNat.toUInt8 = d := by rw [hby]; simp
    rw [e1]
    exact congrArg (fun x => Ending.returned (.int .i64 x)) (let_ix d)
  cases hf : lettersW.findIdx? (· == d) with
  | some k =>
    have hk := find_lt hf
    rw [hf] at hib
    simp only at hib
    have hR : escT s = (7 + (k : Int), 1, 0) := by
      unfold escT; rw [hE]; unfold oneS; rw [if_neg c34, if_neg c92, hf]
      show (((UInt8.ofNat (7 + k)).toNat : Int), (1 : Int), (0 : Int)) = _
      rw [ofNat_toNat (by omega)]; simp
    rw [hR]
    replace hib := Lib.hid hib
    have h7 : k = 0 ∨ k = 1 ∨ k = 2 ∨ k = 3 ∨ k = 4 ∨ k = 5 ∨ k = 6 := by omega
    clear hs hE hR hby hd hf
    rcases h7 with rfl | rfl | rfl | rfl | rfl | rfl | rfl
    all_goals
      go_enter Tryz.func65, Tryz.ntmps65
      go_wp2_with (go_at_call 85; refine (hib.out _).mono ?_; rintro e w2 ⟨rfl, rfl⟩)
      all_goals go_ret3
      all_goals exact ⟨rfl, rfl⟩
  | none =>
    rw [hf] at hib
    simp only at hib
    have hone : oneS d = none := by unfold oneS; rw [if_neg c34, if_neg c92, hf]
    have hE2 : ∀ x, octS s = .error x → escT s = (0, 0, x) := fun x h => by unfold escT; rw [hE, hone, h]
    have hE3 : ∀ x, octS s = .ok x → escT s = ((x.toNat : Int), 3, 0) := fun x h => by unfold escT; rw [hE, hone, h]; rfl
    rw [← octG_three] at hE2 hE3
    obtain ⟨R, hR⟩ : ∃ R, octG 3 0 s = R := ⟨_, rfl⟩
    rw [hR] at hE2 hE3
    generalize escT s = T at *
    replace hib := Lib.hid hib
    replace hE2 := Lib.hid hE2
    replace hE3 := Lib.hid hE3
    replace hR := Lib.hid hR
    have hoc := Lib.hid (fun (c : UInt8) (W : World) => oct_any c W)
    clear hs hE hby hd hf hone
    go_enter Tryz.func65, Tryz.ntmps65
    go_wp2_with (go_at_call 85; refine (hib.out _).mono ?_; rintro e w2 ⟨rfl, rfl⟩)
    go_loopg [3, 6] 3 (fun gh v3 v6 wr => ∃ k sum : Nat, gh = 3 - k ∧ v3 = .int .i64 (k : Int) ∧ v6 = .int .i64 (sum : Int) ∧ k ≤ 3 ∧ k ≤ s.length ∧ sum < 8 ^ k ∧ Hid (octG (3 - k) sum (s.drop k) = R) ∧ wr = w2)
    case atStart => exact ⟨0, 0, rfl, rfl, rfl, by omega, by omega, by decide, Lib.hid (by simpa using hR.out), rfl⟩
    case round =>
      obtain ⟨k, sum, rfl, rfl, rfl, hk, hks, hsum, hG, rfl⟩ := hrel
      have hk4 : k = 0 ∨ k = 1 ∨ k = 2 ∨ k = 3 := by omega
      have hs8 : sum < 512 := by rcases hk4 with rfl | rfl | rfl | rfl <;> omega
      by_cases hk3 : k < 3
      · have hm : 3 - k = (3 - (k + 1)) + 1 := by omega
        have hG := hG.out
        rw [hm] at hG
        by_cases hks2 : k = s.length
        · rw [hks2, List.drop_length] at hG
          have hT := hE2.out 2 (by rw [← hG]; rfl)
          have q3 : ((k : Int) == s.length) = true := by simp; omega
          replace hG := Lib.hid hG
          replace hT := Lib.hid hT
          go_wp2_with fail
          all_goals go_ret3
          all_goals exact ⟨by rw [hT.out]; rfl, rfl⟩
        · have hlt : k < s.length := by omega
          have q3 : ((k : Int) == s.length) = false := by simp; omega
          have hby := ba_at hlt (by rw [ba_size]; exact hlt)
          rw [List.drop_eq_getElem_cons hlt, octG] at hG
          have hoc2 : ∀ W, Calls Tryz.prog 86 #[.int .u8 (((⟨s.toArray⟩ : ByteArray)[k]'(by rw [ba_size]; exact hlt)).toNat : Int)] W fun e w' => e = .returned (.bool (octB s[k])) ∧ w' = W := fun W => by rw [hby]; exact hoc.out _ W
          cases ho : octB s[k] with
          | false =>
            rw [ho] at hoc2 hG
            have hT := hE2.out 10 (by rw [← hG]; rfl)
            replace hG := Lib.hid hG
            replace hT := Lib.hid hT
            replace hoc2 := Lib.hid hoc2
            replace hby := Lib.hid hby
            go_wp2_with (go_at_call 86; refine (hoc2.out _).mono ?_; rintro e w3 ⟨rfl, rfl⟩)
            all_goals go_ret3
            all_goals exact ⟨by rw [hT.out]; rfl, rfl⟩
          | true =>
            rw [ho] at hoc2 hG
            rw [if_neg (by simp)] at hG
            replace hoc2 := Lib.hid hoc2
            unfold octB at ho
            simp only [Bool.and_eq_true, decide_eq_true_eq] at ho
            obtain ⟨x, hx⟩ : ∃ x, s[k].toNat = x := ⟨_, rfl⟩
            have hxx : ((((⟨s.toArray⟩ : ByteArray)[k]'(by rw [ba_size]; exact hlt)).toNat : Nat) : Int) = (x : Int) := by rw [hby, hx]
            have hoc3 : ∀ W, Calls Tryz.prog 86 #[.int .u8 (x : Int)] W fun e w' => e = .returned (.bool true) ∧ w' = W := fun W => by rw [← hxx]; exact hoc2.out W
            replace hoc3 := Lib.hid hoc3
            rw [hx] at ho hG
            obtain ⟨ho1, ho2⟩ := ho
            have w1 : IntKind.u8.wrap ((x : Int) - 48) = (x : Int) - 48 := wrap_u8_id (by omega)
            have hn : ((sum * 8 + (x - 48) : Nat) : Int) = (sum : Int) * 8 + ((x : Int) - 48) := by omega
            have h8 : sum * 8 + (x - 48) < 8 ^ (k + 1) := by rw [Nat.pow_succ]; omega
            replace hG := Lib.hid hG
            replace hby := Lib.hid hby
            clear hx
            go_wp2_with (go_at_call 86; refine (hoc3.out _).mono ?_; rintro e w3 ⟨rfl, rfl⟩)
            all_goals go_roundg (3 - (k + 1))
            case measure => omega
            case rel => exact ⟨k + 1, sum * 8 + (x - 48), rfl, by go_num, by first | (rw [hn]; go_num; done) | (rw [hn]), by omega, by omega, h8, hG, rfl⟩
      · obtain rfl : k = 3 := by omega
        have hG := hG.out
        rw [show 3 - 3 = 0 from rfl, octG] at hG
        by_cases h255 : 255 < sum
        · rw [if_pos h255] at hG
          have hT := hE2.out 10 (by rw [← hG])
          replace hG := Lib.hid hG
          replace hT := Lib.hid hT
          have q4 : decide ((255 : Int) < sum) = true := by simp; omega
          go_wp2_with fail
          all_goals go_ret3
          all_goals exact ⟨by rw [hT.out]; rfl, rfl⟩
        · rw [if_neg h255] at hG
          have hT := hE3.out _ (by rw [← hG])
          rw [ofNat_toNat (by omega)] at hT
          replace hG := Lib.hid hG
          replace hT := Lib.hid hT
          have q4 : decide ((255 : Int) < sum) = false := by rw [decide_eq_false_iff_not]; omega
          have w1 : IntKind.u8.wrap (sum : Int) = (sum : Int) := wrap_u8_id (by omega)
          go_wp2_with fail
          all_goals go_ret3
          all_goals exact ⟨by rw [hT.out]; rfl, rfl⟩
end Go.Proofs.YtcjcflmnghhbaaaGreat
