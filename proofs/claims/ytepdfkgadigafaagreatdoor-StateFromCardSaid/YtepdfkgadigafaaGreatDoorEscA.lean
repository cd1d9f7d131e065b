/-
  show.escape of the program, of chapter 04: what stands behind a backslash.
  Conditions: as each theorem states them.
-/
import Derived.Test.YtepdfkgadigafaaGreatDoorUnqD
import Derived.Test.YtepdfkgadigafaaGreatDoorMem
import Derived.Test.YtepdfkgadigafaaGreatDoorShelf
import Derived.Deep.LoopGhost
import Derived.Test.YtepdfkgadigafaaGreatDoorBase
import Derived.Laws.IdiomStrings
namespace Go.Proofs.YtepdfkgadigafaaGreatDoor
open Go.RowKit
set_option linter.unusedVariables false
set_option linter.unusedSimpArgs false

theorem ba_size (xs : List UInt8) : (⟨xs.toArray⟩ : ByteArray).size = xs.length := by show xs.toArray.size = _; simp
theorem ba_at {xs : List UInt8} {k : Nat} (h : k < xs.length) (h' : k < (⟨xs.toArray⟩ : ByteArray).size) : (⟨xs.toArray⟩ : ByteArray)[k] = xs[k] := by
  show (xs.toArray)[k] = xs[k]
  simp
theorem ba_list (l : List UInt8) : (⟨l.toArray⟩ : ByteArray).toList = l := by rw [ByteArray.toList_eq]
theorem ofNat_toNat {n : Nat} (h : n < 256) : (UInt8.ofNat n).toNat = n := by simp; omega
theorem wrap_u8_id {n : Int} (h : 0 ≤ n ∧ n ≤ 255) : IntKind.u8.wrap n = n := by
  simp [IntKind.wrap, IntKind.signed, IntKind.bits]
  omega
def octG : Nat → Nat → List UInt8 → Except Int UInt8
  | 0, n, _ => if 255 < n then .error 10 else .ok (UInt8.ofNat n)
  | _ + 1, _, [] => .error 2
  | m + 1, n, c :: r => if octB c = false then .error 10 else octG m (n * 8 + (c.toNat - 48)) r
theorem octG_three (s : List UInt8) : octG 3 0 s = octS s := by
  unfold octS
  cases s with
  | nil => rfl
  | cons a r =>
    simp only [octG]
    split
    · rfl
    · cases r with
      | nil => rfl
      | cons b q =>
        simp only [octG]
        split
        · rfl
        · cases q with
          | nil => rfl
          | cons c t =>
            simp only [octG]
            split
            · rfl
            · rw [show ((0 * 8 + (a.toNat - 48)) * 8 + (b.toNat - 48)) * 8 + (c.toNat - 48) = (a.toNat - 48) * 64 + (b.toNat - 48) * 8 + (c.toNat - 48) by omega]
theorem let_ix (d : UInt8) : Lib.indexByte lettersW d = match lettersW.findIdx? (· == d) with | some k => (k : Int) | none => -1 := by
  have h : ∀ n : Fin 256, Lib.indexByte lettersW (UInt8.ofNat n.val) = match lettersW.findIdx? (· == UInt8.ofNat n.val) with | some k => (k : Int) | none => -1 := by decide +kernel
  have := h ⟨d.toNat, UInt8.toNat_lt d⟩
  simpa using this
theorem find_lt {d : UInt8} {k : Nat} (h : lettersW.findIdx? (· == d) = some k) : k < 7 := by
  obtain ⟨hi, _⟩ := List.findIdx?_eq_some_iff_getElem.1 h
  exact hi
/-- what escape answers -/
def escT (s : List UInt8) : Int × Int × Int := match escS s with | .ok (x, n) => ((x.toNat : Int), (n : Int), 0) | .error e => (0, 0, e)
theorem oct_any (c : UInt8) (w : World) : Calls Tryz.prog 113 #[.int .u8 (c.toNat : Int)] w fun e w' => e = .returned (.bool (octB c)) ∧ w' = w := by
  unfold octB
  by_cases h1 : 48 ≤ c.toNat
  · by_cases h2 : c.toNat ≤ 55
    · rw [decide_eq_true h1, decide_eq_true h2]
      go_enter Tryz.func113, Tryz.ntmps113
      go_wp2_with fail
      all_goals go_ret
      all_goals exact ⟨by first | rfl | (exact ret_bool (by simp; omega)), rfl⟩
    · rw [decide_eq_true h1, decide_eq_false h2]
      go_enter Tryz.func113, Tryz.ntmps113
      go_wp2_with fail
      all_goals go_ret
      all_goals exact ⟨by first | rfl | (exact ret_bool (by simp; omega)), rfl⟩
  · rw [decide_eq_false h1, Bool.false_and]
    go_enter Tryz.func113, Tryz.ntmps113
    go_wp2_with fail
    all_goals go_ret
    all_goals exact ⟨by first | rfl | (exact ret_bool (by simp; omega)), rfl⟩
theorem esc_cons {d : UInt8} {r : List UInt8} : escS (d :: r) = match oneS d with | some x => .ok (x, 1) | none => match octS (d :: r) with | .ok x => .ok (x, 3) | .error e => .error e := rfl
set_option maxHeartbeats 4000000 in
set_option maxRecDepth 100000 in
theorem esc_any (s : List UInt8) (hl : s.length ≤ 100000) (w : World) : Calls Tryz.prog 86 #[strV s] w fun e w' => e = .returned (.tuple #[.int .u8 (escT s).1, .int .i64 (escT s).2.1, .int .i64 (escT s).2.2]) ∧ w' = w := by
  by_cases hn : s = []
  · subst hn
    go_enter Tryz.func86, Tryz.ntmps86
    go_wp2_with fail
    all_goals go_ret3
    all_goals exact ⟨rfl, rfl⟩
  have h0 : 0 < s.length := by cases s <;> simp_all
  have q0 : s.isEmpty = false := by simpa using hn
  have hby := ba_at h0 (by rw [ba_size]; exact h0)
  obtain ⟨d, hd⟩ : ∃ d, s[0] = d := ⟨_, rfl⟩
  obtain ⟨r, hs⟩ : ∃ r, s = d :: r := by
    cases s with
    | nil => simp at h0
    | cons a r => exact ⟨r, by rw [← hd]; rfl⟩
  have hE : escS s = match oneS d with | some x => .ok (x, 1) | none => match octS s with | .ok x => .ok (x, 3) | .error e => .error e := by rw [hs]; exact esc_cons
  rw [hd] at hby
  have hsz : ((s.length : Nat) : Int) ≤ 100000 := by omega
  by_cases c92 : d = 92
  · have q1 : (((⟨s.toArray⟩ : ByteArray)[0]'(by rw [ba_size]; exact h0)).toNat : Int) = 92 := by rw [hby, c92]; rfl
    have hR : escT s = (92, 1, 0) := by unfold escT; rw [hE, c92]; rfl
    rw [hR]
    clear hs hE hR hby hd
    go_enter Tryz.func86, Tryz.ntmps86
    go_wp2_with fail
    all_goals go_ret3
    all_goals exact ⟨rfl, rfl⟩
  by_cases c34 : d = 34
  · have q1 : (((⟨s.toArray⟩ : ByteArray)[0]'(by rw [ba_size]; exact h0)).toNat : Int) = 34 := by rw [hby, c34]; rfl
    have hR : escT s = (34, 1, 0) := by unfold escT; rw [hE, c34]; rfl
    rw [hR]
    clear hs hE hR hby hd
    go_enter Tryz.func86, Tryz.ntmps86
    go_wp2_with fail
    all_goals go_ret3
    all_goals exact ⟨rfl, rfl⟩
  have q1 : ((((⟨s.toArray⟩ : ByteArray)[0]'(by rw [ba_size]; exact h0)).toNat : Int) == 92) = false := by
    rw [hby]; simp only [beq_eq_false_iff_ne, ne_eq]; intro e; exact c92 (UInt8.toNat_inj.1 (by rw [show (92 : UInt8).toNat = 92 from rfl]; omega))
  have q2 : ((((⟨s.toArray⟩ : ByteArray)[0]'(by rw [ba_size]; exact h0)).toNat : Int) == 34) = false := by
    rw [hby]; simp only [beq_eq_false_iff_ne, ne_eq]; intro e; exact c34 (UInt8.toNat_inj.1 (by rw [show (34 : UInt8).toNat = 34 from rfl]; omega))
  have hib : ∀ W, Calls Tryz.prog 112 #[.string ⟨#[97, 98, 116, 110, 118, 102, 114]⟩, .int .u8 (((⟨s.toArray⟩ : ByteArray)[0]'(by rw [ba_size]; exact h0)).toNat : Int)] W fun e w' => e = .returned (.int .i64 (match lettersW.findIdx? (· == d) with | some k => (k : Int) | none => -1)) ∧ w' = W := fun W => by
    have := Tryz.strings_IndexByte ⟨#[97, 98, 116, 110, 118, 102, 114]⟩ (((⟨s.toArray⟩ : ByteArray)[0]'(by rw [ba_size]; exact h0)).toNat : Int) W
    refine this.mono fun e w' h => ⟨?_, h.2⟩
    rw [h.1]
    have e1 : ((((⟨s.toArray⟩ : ByteArray)[0]'(by rw [ba_size]; exact h0)).toNat : Int)).toNat.toUInt8 = d := by rw [hby]; simp
    rw [e1]
    exact congrArg (fun x => Ending.returned (.int .i64 x)) (let_ix d)
  cases hf : lettersW.findIdx? (· == d) with
  | some k =>
    have hk := find_lt hf
    rw [hf] at hib
    simp only at hib
    have hR : escT s = (7 + (k : Int), 1, 0) := by
      unfold escT; rw [hE]; unfold oneS; rw [if_neg c34, if_neg c92, hf]
      show (((UInt8.ofNat (7 + k)).toNat : Int), (1 : Int), (0 : Int)) = _
      rw [ofNat_toNat (by omega)]; simp
    rw [hR]
    replace hib := Lib.hid hib
    have h7 : k = 0 ∨ k = 1 ∨ k = 2 ∨ k = 3 ∨ k = 4 ∨ k = 5 ∨ k = 6 := by omega
    clear hs hE hR hby hd hf
    rcases h7 with rfl | rfl | rfl | rfl | rfl | rfl | rfl
    all_goals
      go_enter Tryz.func86, Tryz.ntmps86
      go_wp2_with (go_at_call 112; refine (hib.out _).mono ?_; rintro e w2 ⟨rfl, rfl⟩)
      all_goals go_ret3
      all_goals exact ⟨rfl, rfl⟩
  | none =>
    rw [hf] at hib
    simp only at hib
    have hone : oneS d = none := by unfold oneS; rw [if_neg c34, if_neg c92, hf]
    have hE2 : ∀ x, octS s = .error x → escT s = (0, 0, x) := fun x h => by unfold escT; rw [hE, hone, h]
    have hE3 : ∀ x, octS s = .ok x → escT s = ((x.toNat : Int), 3, 0) := fun x h => by unfold escT; rw [hE, hone, h]; rfl
    rw [← octG_three] at hE2 hE3
    obtain ⟨R, hR⟩ : ∃ R, octG 3 0 s = R := ⟨_, rfl⟩
    rw [hR] at hE2 hE3
    generalize escT s = T at *
    replace hib := Lib.hid hib
    replace hE2 := Lib.hid hE2
    replace hE3 := Lib.hid hE3
    replace hR := Lib.hid hR
    have hoc := Lib.hid (fun (c : UInt8) (W : World) => oct_any c W)
    clear hs hE hby hd hf hone
    go_enter Tryz.func86, Tryz.ntmps86
    go_wp2_with (go_at_call 112; refine (hib.out _).mono ?_; rintro e w2 ⟨rfl, rfl⟩)
    go_loopg [3, 6] 3 (fun gh v3 v6 wr => ∃ k sum : Nat, gh = 3 - k ∧ v3 = .int .i64 (k : Int) ∧ v6 = .int .i64 (sum : Int) ∧ k ≤ 3 ∧ k ≤ s.length ∧ sum < 8 ^ k ∧ Hid (octG (3 - k) sum (s.drop k) = R) ∧ wr = w2)
    case atStart => exact ⟨0, 0, rfl, rfl, rfl, by omega, by omega, by decide, Lib.hid (by simpa using hR.out), rfl⟩
    case round =>
      obtain ⟨k, sum, rfl, rfl, rfl, hk, hks, hsum, hG, rfl⟩ := hrel
      have hk4 : k = 0 ∨ k = 1 ∨ k = 2 ∨ k = 3 := by omega
      have hs8 : sum < 512 := by rcases hk4 with rfl | rfl | rfl | rfl <;> omega
      by_cases hk3 : k < 3
      · have hm : 3 - k = (3 - (k + 1)) + 1 := by omega
        have hG := hG.out
        rw [hm] at hG
        by_cases hks2 : k = s.length
        · rw [hks2, List.drop_length] at hG
          have hT := hE2.out 2 (by rw [← hG]; rfl)
          have q3 : ((k : Int) == s.length) = true := by simp; omega
          replace hG := Lib.hid hG
          replace hT := Lib.hid hT
          go_wp2_with fail
          all_goals go_ret3
          all_goals exact ⟨by rw [hT.out]; rfl, rfl⟩
        · have hlt : k < s.length := by omega
          have q3 : ((k : Int) == s.length) = false := by simp; omega
          have hby := ba_at hlt (by rw [ba_size]; exact hlt)
          rw [List.drop_eq_getElem_cons hlt, octG] at hG
          have hoc2 : ∀ W, Calls Tryz.prog 113 #[.int .u8 (((⟨s.toArray⟩ : ByteArray)[k]'(by rw [ba_size]; exact hlt)).toNat : Int)] W fun e w' => e = .returned (.bool (octB s[k])) ∧ w' = W := fun W => by rw [hby]; exact hoc.out _ W
          cases ho : octB s[k] with
          | false =>
            rw [ho] at hoc2 hG
            have hT := hE2.out 10 (by rw [← hG]; rfl)
            replace hG := Lib.hid hG
            replace hT := Lib.hid hT
            replace hoc2 := Lib.hid hoc2
            replace hby := Lib.hid hby
            go_wp2_with (go_at_call 113; refine (hoc2.out _).mono ?_; rintro e w3 ⟨rfl, rfl⟩)
            all_goals go_ret3
            all_goals exact ⟨by rw [hT.out]; rfl, rfl⟩
          | true =>
            rw [ho] at hoc2 hG
            rw [if_neg (by simp)] at hG
            replace hoc2 := Lib.hid hoc2
            unfold octB at ho
            simp only [Bool.and_eq_true, decide_eq_true_eq] at ho
            obtain ⟨x, hx⟩ : ∃ x, s[k].toNat = x := ⟨_, rfl⟩
            have hxx : ((((⟨s.toArray⟩ : ByteArray)[k]'(by rw [ba_size]; exact hlt)).toNat : Nat) : Int) = (x : Int) := by rw [hby, hx]
            have hoc3 : ∀ W, Calls Tryz.prog 113 #[.int .u8 (x : Int)] W fun e w' => e = .returned (.bool true) ∧ w' = W := fun W => by rw [← hxx]; exact hoc2.out W
            replace hoc3 := Lib.hid hoc3
            rw [hx] at ho hG
            obtain ⟨ho1, ho2⟩ := ho
            have w1 : IntKind.u8.wrap ((x : Int) - 48) = (x : Int) - 48 := wrap_u8_id (by omega)
            have hn : ((sum * 8 + (x - 48) : Nat) : Int) = (sum : Int) * 8 + ((x : Int) - 48) := by omega
            have h8 : sum * 8 + (x - 48) < 8 ^ (k + 1) := by rw [Nat.pow_succ]; omega
            replace hG := Lib.hid hG
            replace hby := Lib.hid hby
            clear hx
            go_wp2_with (go_at_call 113; refine (hoc3.out _).mono ?_; rintro e w3 ⟨rfl, rfl⟩)
            all_goals go_roundg (3 - (k + 1))
            case measure => omega
            case rel => exact ⟨k + 1, sum * 8 + (x - 48), rfl, by go_num, by first | (rw [hn]; go_num; done) | (rw [hn]), by omega, by omega, h8, hG, rfl⟩
      · obtain rfl : k = 3 := by omega
        have hG := hG.out
        rw [show 3 - 3 = 0 from rfl, octG] at hG
        by_cases h255 : 255 < sum
        · rw [if_pos h255] at hG
          have hT := hE2.out 10 (by rw [← hG])
          replace hG := Lib.hid hG
          replace hT := Lib.hid hT
          have q4 : decide ((255 : Int) < sum) = true := by simp; omega
          go_wp2_with fail
          all_goals go_ret3
          all_goals exact ⟨by rw [hT.out]; rfl, rfl⟩
        · rw [if_neg h255] at hG
          have hT := hE3.out _ (by rw [← hG])
          rw [ofNat_toNat (by omega)] at hT
          replace hG := Lib.hid hG
          replace hT := Lib.hid hT
          have q4 : decide ((255 : Int) < sum) = false := by rw [decide_eq_false_iff_not]; omega
          have w1 : IntKind.u8.wrap (sum : Int) = (sum : Int) := wrap_u8_id (by omega)
          go_wp2_with fail
          all_goals go_ret3
          all_goals exact ⟨by rw [hT.out]; rfl, rfl⟩
end Go.Proofs.YtepdfkgadigafaaGreatDoor
/-
  show.Unquote of the program at any text, from its first byte on; of chapter 04.
  Conditions: as each theorem states them.
-/
namespace Go.Proofs.YtepdfkgadigafaaGreatDoor
open Go.RowKit
set_option linter.unusedVariables false
set_option linter.unusedSimpArgs false
theorem infoByteU : (Tryz.prog.info? 5).map (fun i => (i.zero, i.size, i.bytes)) = some (some (.int .u8 0), 1, 1) := by kernel_rfl
theorem byteCells_app (a b : List UInt8) : Lib.byteCells (a ++ b) = Lib.byteCells a ++ Lib.byteCells b := by simp [Lib.byteCells]
theorem ext_list (L : List UInt8) (a b : Nat) : (⟨L.toArray⟩ : ByteArray).extract a b = ⟨((L.drop a).take (b - a)).toArray⟩ := by
  apply ByteArray.ext
  simp [ByteArray.data_extract, List.extract_eq_take_drop]
theorem octS_err {s : List UInt8} {e : Int} (h : octS s = .error e) : e = 2 ∨ e = 10 := by
  unfold octS at h
  (repeat' split at h)
  all_goals first | (injection h with h; omega) | (simp only at h; (repeat' split at h) <;> first | (injection h with h; omega) | cases h) | cases h
theorem escS_err {s : List UInt8} {e : Int} (h : escS s = .error e) : e = 2 ∨ e = 10 := by
  unfold escS at h
  split at h
  · injection h with h; omega
  · split at h
    · cases h
    · split at h
      · cases h
      · rename_i q; injection h with h; subst h; exact octS_err q
/-- what Unquote answers -/
def UnqIs (R : List UInt8 × Int × Int) (w : World) (e : Ending) (w' : World) : Prop := ∃ v, e = .returned (.tuple #[v, .int .i64 R.2.1, .int .i64 R.2.2]) ∧ w'.ownsRow w.heap.size 5 1 v R.1.length (Lib.byteCells R.1) ∧ Below w.heap.size w w'
theorem UnqIs.mk {R : List UInt8 × Int × Int} {w w' : World} {v : Value} {l : List UInt8} {p c : Int} (h : R = (l, p, c)) (ho : w'.ownsRow w.heap.size 5 1 v l.length (Lib.byteCells l)) (hb : Below w.heap.size w w') : UnqIs R w (.returned (.tuple #[v, .int .i64 p, .int .i64 c])) w' := by
  subst h; exact ⟨v, rfl, ho, hb⟩
theorem UnqIs.err {R : List UInt8 × Int × Int} {w w' : World} {c : Int} (h : R = ([], 0, c)) (hb : Below w.heap.size w w') : UnqIs R w (.returned (.tuple #[.slice none 0 0, .int .i64 0, .int .i64 c])) w' :=
  UnqIs.mk h (World.ownsRow_nil _ _ _ _) hb
def LqR (s : List UInt8) (w : World) (R : List UInt8 × Int × Int) (gh : Nat) (i v : Value) (wr : World) : Prop := ∃ (k : Nat) (out : List UInt8), gh = s.length - k ∧ i = .int .i64 (k : Int) ∧ k ≤ s.length ∧ out.length ≤ k ∧ unqS out k (s.drop k) = R ∧ wr.ownsRow w.heap.size 5 1 v out.length (Lib.byteCells out) ∧ Below w.heap.size w wr
theorem lq_snoc {s : List UInt8} {w wr w1 : World} {R : List UInt8 × Int × Int} {gh k k2 : Nat} {out : List UInt8} {x : UInt8} {v v1 : Value} {o : Obj} (hg : gh = s.length - k2) (hk : k2 ≤ s.length) (hkk : k < k2) (hl : out.length ≤ k) (hR : unqS (out ++ [x]) k2 (s.drop k2) = R)
    (hown : wr.ownsRow w.heap.size 5 1 v out.length (Lib.byteCells out)) (ho : w1.ownsRow w.heap.size 5 1 v1 (out.length + 1) (Lib.byteCells out ++ [.int .u8 (x.toNat : Int)])) (hb : Below w.heap.size w wr) (hgr : (wr.alloc o).grownBy w1 v.ownBlock) : LqR s w R gh (.int .i64 (k2 : Int)) v1 w1 := by
  refine ⟨k2, out ++ [x], hg, rfl, hk, by simp; omega, hR, ?_, ?_⟩
  · rw [byteCells_app, List.length_append]; exact ho
  · exact (hb.alloc (by have := hb.size; omega) _).grown hgr (by have := hb.size; simp; omega) (fun j hj => (hown.lt j hj).1)
set_option maxHeartbeats 4000000 in
set_option maxRecDepth 100000 in
theorem unquote_any (s : List UInt8) (hl : s.length ≤ 100000) (w : World) :
    Calls Tryz.prog 62 #[strV s, .int .i64 0] w (UnqIs (unquoteS s 0) w) := by
  obtain ⟨i0, hi, hz0, hz1, hz2⟩ := info_parts infoByteU
  by_cases h2 : s = []
  · subst h2
    have hR : unquoteS [] 0 = ([], 0, 9) := rfl
    rw [hR]
    go_enter Tryz.func62, Tryz.ntmps62
    go_wp2_with fail
    all_goals go_ret3
    all_goals exact UnqIs.err rfl (Below.refl _ _)
  have h3 : 0 < s.length := by cases s <;> simp_all
  have hby := ba_at h3 (by rw [ba_size]; exact h3)
  have hd : s.drop 0 = s[0] :: s.drop (0 + 1) := List.drop_eq_getElem_cons h3
  have qn : ((0 : Int) == s.length) = false := by simp; omega
  by_cases h4 : s[0] = 34
  · have q4 : (((⟨s.toArray⟩ : ByteArray)[0]'(by rw [ba_size]; exact h3)).toNat : Int) = 34 := by rw [hby, h4]; rfl
    obtain ⟨R, hR⟩ : ∃ R, unquoteS s 0 = R := ⟨_, rfl⟩
    have hR0 : unqS [] (0 + 1) (s.drop (0 + 1)) = R := by
      rw [← hR]; unfold unquoteS; rw [if_neg (by omega), show (0 : Int).toNat = 0 from rfl, hd]; simp only; rw [if_neg (by simpa using h4)]
    rw [hR]
    replace hR0 := Lib.hid hR0
    clear hR hd h4 hby h2
    go_enter Tryz.func62, Tryz.ntmps62
    go_wp2_with fail
    go_loopg [1, 7] (s.length - 1) (fun gh i v wr => LqR s w R gh i v wr)
    case atStart => exact ⟨1, [], rfl, by go_num, by omega, by simp, hR0.out, World.ownsRow_nil _ _ _ _, Below.refl _ _⟩
    case round =>
      clear q4 hR0 h3 qn
      obtain ⟨k, out, rfl, rfl, hk, hol, hun, hown, hb⟩ := hrel
      have hsize := hb.size
      by_cases hlt : k < s.length
      · have hby := ba_at hlt (by rw [ba_size]; exact hlt)
        have hdk : s.drop k = s[k] :: s.drop (k + 1) := List.drop_eq_getElem_cons hlt
        rw [hdk] at hun
        by_cases c34 : s[k] = 34
        · have q4 : (((⟨s.toArray⟩ : ByteArray)[k]'(by rw [ba_size]; exact hlt)).toNat : Int) = 34 := by rw [hby, c34]; rfl
          rw [c34, unqS_end] at hun
          replace hun := Lib.hid hun
          clear hby hdk c34
          go_wp2_with fail
          all_goals go_ret3
          all_goals exact UnqIs.mk hun.out.symm hown hb
        · have q4 : ((((⟨s.toArray⟩ : ByteArray)[k]'(by rw [ba_size]; exact hlt)).toNat : Int) == 34) = false := by
            rw [hby]; simp only [beq_eq_false_iff_ne, ne_eq]; intro e; exact c34 (UInt8.toNat_inj.1 (by rw [show (34 : UInt8).toNat = 34 from rfl]; omega))
          by_cases c92 : s[k] = 92
          · have q5 : (((⟨s.toArray⟩ : ByteArray)[k]'(by rw [ba_size]; exact hlt)).toNat : Int) = 92 := by rw [hby, c92]; rfl
            rw [c92] at hun
            clear q4 hby hdk c34 c92
            have he := esc_any (s.drop (k + 1)) (by rw [List.length_drop]; omega)
            have hx : (⟨s.toArray⟩ : ByteArray).extract (k + 1) s.length = ⟨(s.drop (k + 1)).toArray⟩ := by rw [ext_list, List.take_of_length_le (by simp)]
            unfold strV at he
            rw [← hx] at he
            unfold escT at he
            cases hes : escS (s.drop (k + 1)) with
            | error x =>
              rw [hes] at he
              rw [unqS_err out k _ x hes] at hun
              have q6 : x ≠ 0 := by
                intro e; subst e
                have := escS_err hes
                omega
              have q7 : (x != 0) = true := by simpa using q6
              replace he := Lib.hid he
              replace hun := Lib.hid hun
              replace q6 := Lib.hid q6
              replace hx := Lib.hid hx
              replace hes := Lib.hid hes
              go_wp2_with (go_at_call 86; refine (he.out _).mono ?_; rintro e w2 ⟨rfl, rfl⟩)
              all_goals go_ret3
              all_goals exact UnqIs.err hun.out.symm hb
            | ok xn =>
              obtain ⟨x, n⟩ := xn
              rw [hes] at he
              rw [unqS_esc out k _ x n hes] at hun
              obtain ⟨hn1, hn2⟩ := escS_len hes
              rw [List.length_drop] at hn2
              rw [List.drop_drop] at hun
              replace he := Lib.hid he
              replace hun := Lib.hid hun
              replace hx := Lib.hid hx
              replace hes := Lib.hid hes
              go_wp2_with (first
                | (go_at_call 86; refine (he.out _).mono ?_; rintro e w2 ⟨rfl, rfl⟩)
                | (at_builtin; refine wpList_append_own _ rfl (.tmp 65) (.tmp 67) 22 rfl w.heap.size 5 i0 (.int .u8 0) 1 1 Tryz.underlying22 hi hz0 hz1 hz2 rfl (by decide) _ _ _ rfl (hown.alloc _) ⟨w2.heap.size, 0, none⟩ 1 1 [.int .u8 (x.toNat : Int)] rfl rfl (cell_one_new _ _ _) (by intro u hu; simp at hu; subst hu; rfl) (by unfold maxLen; omega) (by omega) (by simp; omega) ?_; intro v1 w1 hown1 hgrow1 hnil1))
              all_goals go_roundg (s.length - (k + 1 + n))
              case measure => omega
              case rel => exact lq_snoc (k := k) (k2 := k + 1 + n) rfl (by omega) (by omega) hol hun.out hown hown1 hb hgrow1
          · have q5 : ((((⟨s.toArray⟩ : ByteArray)[k]'(by rw [ba_size]; exact hlt)).toNat : Int) == 92) = false := by
              rw [hby]; simp only [beq_eq_false_iff_ne, ne_eq]; intro e; exact c92 (UInt8.toNat_inj.1 (by rw [show (92 : UInt8).toNat = 92 from rfl]; omega))
            rw [unqS_plain out k s[k] _ c34 c92] at hun
            replace hun := Lib.hid hun
            clear hdk c34 c92
            replace hby := Lib.hid hby
            go_wp2_with (at_builtin; refine wpList_append_own _ rfl (.tmp 44) (.tmp 46) 22 rfl w.heap.size 5 i0 (.int .u8 0) 1 1 Tryz.underlying22 hi hz0 hz1 hz2 rfl (by decide) _ _ _ rfl (hown.alloc _) ⟨wr.heap.size, 0, none⟩ 1 1 [.int .u8 (((⟨s.toArray⟩ : ByteArray)[k]'(by rw [ba_size]; exact hlt)).toNat : Int)] rfl rfl (cell_one_new _ _ _) (by intro u hu; simp at hu; subst hu; rfl) (by unfold maxLen; omega) (by omega) (by simp; omega) ?_; intro v1 w1 hown1 hgrow1 hnil1)
            all_goals go_roundg (s.length - (k + 1))
            case measure => omega
            case rel => exact lq_snoc (k := k) (k2 := k + 1) rfl (by omega) (by omega) hol hun.out hown (by rw [← hby.out]; exact hown1) hb hgrow1
      · obtain rfl : k = s.length := by omega
        rw [List.drop_length, unqS_nil] at hun
        replace hun := Lib.hid hun
        go_wp2_with fail
        all_goals go_ret3
        all_goals exact UnqIs.err hun.out.symm hb
  · have hR : unquoteS s 0 = ([], 0, 9) := by unfold unquoteS; rw [if_neg (by omega), show (0 : Int).toNat = 0 from rfl, hd]; simp only; rw [if_pos h4]
    rw [hR]
    have q4 : ((((⟨s.toArray⟩ : ByteArray)[0]'(by rw [ba_size]; exact h3)).toNat : Int) == 34) = false := by
      rw [hby]; simp only [beq_eq_false_iff_ne, ne_eq]; intro e; exact h4 (UInt8.toNat_inj.1 (by rw [show (34 : UInt8).toNat = 34 from rfl]; omega))
    have q5 : ((((⟨s.toArray⟩ : ByteArray)[0]'(by rw [ba_size]; exact h3)).toNat : Int) != 34) = true := by simp only [bne, q4]; rfl
    clear hR hd h4 hby h2
    go_enter Tryz.func62, Tryz.ntmps62
    go_wp2_with fail
    all_goals go_ret3
    all_goals exact UnqIs.err rfl (Below.refl _ _)
end Go.Proofs.YtepdfkgadigafaaGreatDoor
/-
  Bytes turned into a string, and back; of chapter 27.
  Conditions: as each theorem states them.
-/
namespace Go.Proofs.YtepdfkgadigafaaGreatDoor
open Go.RowKit
set_option linter.unusedVariables false
set_option linter.unusedSimpArgs false
theorem own_slice {w : World} {base e k n : Nat} {v : Value} {xs : List Value} (h : w.ownsRow base e k v n xs) : ∃ a c, v = .slice a n c := by
  rcases h.2 with ⟨rfl, rfl⟩ | ⟨g, cap, cur, rfl, _⟩
  · exact ⟨none, 0, rfl⟩
  · exact ⟨_, cap, rfl⟩
theorem byteCells_cells {w : World} {base e : Nat} {v : Value} {l : List UInt8} (h : w.ownsRow base e 1 v l.length (Lib.byteCells l)) : (v = .slice none 0 0 ∧ l = []) ∨ ∃ gq cap, v = .slice (some ⟨gq, 0, none⟩) l.length cap ∧ ∀ j u, (Lib.byteCells l)[j]? = some u → w.cell? ((⟨gq, 0, none⟩ : Addr).add j) = some u := by
  have h' := h
  obtain ⟨h1, h2⟩ := h
  rcases h2 with ⟨rfl, h0⟩ | ⟨gq, cap, cur, rfl, hb, hh, _, _, _, hx⟩
  · exact .inl ⟨rfl, List.eq_nil_of_length_eq_zero h0⟩
  · refine .inr ⟨gq, cap, rfl, fun j u hj => ?_⟩
    have e1 : (⟨gq, 0, none⟩ : Addr).add j = ⟨gq, j, none⟩ := by unfold Addr.add; by_cases h0 : j = 0 <;> simp [h0]
    rw [e1]
    have hB : Blk w gq e cur.toList := by simpa [Blk] using hh
    rw [hB.cell]
    rw [← hx] at hj
    rw [List.getElem?_take] at hj
    split at hj
    · simpa using hj
    · cases hj
/-- '[]byte(s)' -/
theorem conv_bytes {P : Program} (w : World) (src dst e : TypeId) (xs : List UInt8) (hs : P.underlying src = some .string) (hd : P.underlying dst = some (.slice e)) (he : P.underlying e = some (.int .u8)) :
    ∃ c w', (convert src dst (strV xs)).run P w = .ok (.slice (some ⟨w.heap.size, 0, none⟩) xs.length c) w' ∧ Below w.heap.size w w' ∧ ByteRow w' w.heap.size 0 xs ∧ w.heap.size < w'.heap.size := by
  have h := run_bytes_of_string (P := P) w src dst e ⟨xs.toArray⟩ hs hd he
  rw [show (⟨xs.toArray⟩ : ByteArray).size = xs.length from ba_size xs] at h
  refine ⟨_, _, h, bl_alloc (bl_drew (Below.refl _ _)) _, fun i hi => ?_, by simp⟩
  rw [Nat.zero_add]
  have hsz : i < (⟨xs.toArray⟩ : ByteArray).data.size := by simpa using hi
  exact (World.cell?_alloc_mark w.drew _ _ _ i).trans ((bytesRow_at _ _ _ hsz).trans (by simp))
/-- a line as a string -/
theorem conv_line {w : World} {base : Nat} {v : Value} {l : List UInt8} (h : w.ownsRow base 5 1 v l.length (Lib.byteCells l)) : (convert 22 9 v).run Tryz.prog w = .ok (strV l) w := by
  rcases byteCells_cells h with ⟨rfl, rfl⟩ | ⟨g, cap, rfl, hc⟩
  · exact run_convert_bytes_nil w 22 5 Tryz.underlying22 Tryz.underlying5 0 0 9 Tryz.underlying9
  · exact run_convert_bytes_back w 22 9 5 ⟨g, 0, none⟩ cap l Tryz.underlying22 Tryz.underlying5 Tryz.underlying9 (fun j hj => hc j _ (by simp [Lib.byteCells, hj]))
/-- '[]byte(s)', with its room -/
theorem conv_room {P : Program} (w : World) (src dst e : TypeId) (xs : List UInt8) (hs : P.underlying src = some .string) (hd : P.underlying dst = some (.slice e)) (he : P.underlying e = some (.int .u8)) :
    ∃ c w', (convert src dst (strV xs)).run P w = .ok (.slice (some ⟨w.heap.size, 0, none⟩) xs.length c) w' ∧ Below w.heap.size w w' ∧ ByteRow w' w.heap.size 0 xs ∧ w.heap.size < w'.heap.size ∧ xs.length ≤ c := by
  have h := run_bytes_of_string (P := P) w src dst e ⟨xs.toArray⟩ hs hd he
  rw [show (⟨xs.toArray⟩ : ByteArray).size = xs.length from ba_size xs] at h
  refine ⟨_, _, h, bl_alloc (bl_drew (Below.refl _ _)) _, fun i hi => ?_, by simp, grownCap_ge _ _ _ _⟩
  rw [Nat.zero_add]
  have hsz : i < (⟨xs.toArray⟩ : ByteArray).data.size := by simpa using hi
  exact (World.cell?_alloc_mark w.drew _ _ _ i).trans ((bytesRow_at _ _ _ hsz).trans (by simp))
end Go.Proofs.YtepdfkgadigafaaGreatDoor
