/-
  show.Unquote of the program at any text, from its first byte on; of chapter 04.
  Conditions: as each theorem states them.
-/
import Derived.Test.YtaginadnaajleaaDoorEsc
import Derived.Test.YtaginadnaajleaaDoorBase
import Derived.Test.YtaginadnaajleaaDoorBookM
import Derived.Test.YtaginadnaajleaaDoorDigit
import Derived.Test.YtaginadnaajleaaDoorNum
import Derived.Laws.IdiomStrings
import Derived.Laws.AppendOwnNone
import Derived.Lib.SliceRun
namespace Go.Proofs.YtaginadnaajleaaDoor
open Go.RowKit
set_option linter.unusedVariables false
set_option linter.unusedSimpArgs false
theorem infoByteB : (Tryd.prog.info? 5).map (fun i => (i.zero, i.size, i.bytes)) = some (some (.int .u8 0), 1, 1) := by kernel_rfl
theorem byteCells_app (a b : List UInt8) : Lib.byteCells (a ++ b) = Lib.byteCells a ++ Lib.byteCells b := by simp [Lib.byteCells]
theorem ext_list (L : List UInt8) (a b : Nat) : (⟨L.toArray⟩ : ByteArray).extract a b = ⟨((L.drop a).take (b - a)).toArray⟩ := by
  apply ByteArray.ext
  simp [ByteArray.data_extract, List.extract_eq_take_drop]
theorem octS_err {s : List UInt8} {e : Int} (h : octS s = .error e) : e = 2 ∨ e = 10 := by
  unfold octS at h
  (repeat' split at h)
  all_goals first | (injection h with h; omega) | (simp only at h; (repeat' split at h) <;> first | (injection h with h; omega) | cases h) | cases h
theorem escS_err {s : List UInt8} {e : Int} (h : escS s = .error e) : e = 2 ∨ e = 10 := by
  unfold escS at h
  split at h
  · injection h with h; omega
  · split at h
    · cases h
    · split at h
      · cases h
      · rename_i q; injection h with h; subst h; exact octS_err q
/-- what Unquote answers -/
def UnqIs (R : List UInt8 × Int × Int) (w : World) (e : Ending) (w' : World) : Prop := ∃ v, e = .returned (.tuple #[v, .int .i64 R.2.1, .int .i64 R.2.2]) ∧ w'.ownsRow w.heap.size 5 1 v R.1.length (Lib.byteCells R.1) ∧ Below w.heap.size w w'
theorem UnqIs.mk {R : List UInt8 × Int × Int} {w w' : World} {v : Value} {l : List UInt8} {p c : Int} (h : R = (l, p, c)) (ho : w'.ownsRow w.heap.size 5 1 v l.length (Lib.byteCells l)) (hb : Below w.heap.size w w') : UnqIs R w (.returned (.tuple #[v, .int .i64 p, .int .i64 c])) w' := by
  subst h; exact ⟨v, rfl, ho, hb⟩
theorem UnqIs.err {R : List UInt8 × Int × Int} {w w' : World} {c : Int} (h : R = ([], 0, c)) (hb : Below w.heap.size w w') : UnqIs R w (.returned (.tuple #[.slice none 0 0, .int .i64 0, .int .i64 c])) w' :=
  UnqIs.mk h (World.ownsRow_nil _ _ _ _) hb
def LqR (s : List UInt8) (w : World) (R : List UInt8 × Int × Int) (gh : Nat) (i v : Value) (wr : World) : Prop := ∃ (k : Nat) (out : List UInt8), gh = s.length - k ∧ i = .int .i64 (k : Int) ∧ k ≤ s.length ∧ out.length ≤ k ∧ unqS out k (s.drop k) = R ∧ wr.ownsRow w.heap.size 5 1 v out.length (Lib.byteCells out) ∧ Below w.heap.size w wr
theorem lq_snoc {s : List UInt8} {w wr w1 : World} {R : List UInt8 × Int × Int} {gh k k2 : Nat} {out : List UInt8} {x : UInt8} {v v1 : Value} {o : Obj} (hg : gh = s.length - k2) (hk : k2 ≤ s.length) (hkk : k < k2) (hl : out.length ≤ k) (hR : unqS (out ++ [x]) k2 (s.drop k2) = R)
    (hown : wr.ownsRow w.heap.size 5 1 v out.length (Lib.byteCells out)) (ho : w1.ownsRow w.heap.size 5 1 v1 (out.length + 1) (Lib.byteCells out ++ [.int .u8 (x.toNat : Int)])) (hb : Below w.heap.size w wr) (hgr : (wr.alloc o).grownBy w1 v.ownBlock) : LqR s w R gh (.int .i64 (k2 : Int)) v1 w1 := by
  refine ⟨k2, out ++ [x], hg, rfl, hk, by simp; omega, hR, ?_, ?_⟩
  · rw [byteCells_app, List.length_append]; exact ho
  · exact (hb.alloc (by have := hb.size; omega) _).grown hgr (by have := hb.size; simp; omega) (fun j hj => (hown.lt j hj).1)
set_option maxHeartbeats 4000000 in
set_option maxRecDepth 100000 in
theorem unquote_any (s : List UInt8) (hl : s.length ≤ 100000) (w : World) :
    Calls Tryd.prog 74 #[strV s, .int .i64 0] w (UnqIs (unquoteS s 0) w) := by
  obtain ⟨i0, hi, hz0, hz1, hz2⟩ := info_parts infoByteB
  by_cases h2 : s = []
  · subst h2
    have hR : unquoteS [] 0 = ([], 0, 9) := rfl
    rw [hR]
    go_enter Tryd.func74, Tryd.ntmps74
    go_wp2_with fail
    all_goals go_ret3
    all_goals exact UnqIs.err rfl (Below.refl _ _)
  have h3 : 0 < s.length := by cases s <;> simp_all
  have hby := ba_at h3 (by rw [ba_size]; exact h3)
  have hd : s.drop 0 = s[0] :: s.drop (0 + 1) := List.drop_eq_getElem_cons h3
  have qn : ((0 : Int) == s.length) = false := by simp; omega
  by_cases h4 : s[0] = 34
  · have q4 : (((⟨s.toArray⟩ : ByteArray)[0]'(by rw [ba_size]; exact h3)).toNat : Int) = 34 := by rw [hby, h4]; rfl
    obtain ⟨R, hR⟩ : ∃ R, unquoteS s 0 = R := ⟨_, rfl⟩
    have hR0 : unqS [] (0 + 1) (s.drop (0 + 1)) = R := by
      rw [← hR]; unfold unquoteS; rw [if_neg (by omega), show (0 : Int).toNat = 0 from rfl, hd]; simp only; rw [if_neg (by simpa using h4)]
    rw [hR]
    replace hR0 := Lib.hid hR0
    clear hR hd h4 hby h2
    go_enter Tryd.func74, Tryd.ntmps74
    go_wp2_with fail
    go_loopg [1, 7] (s.length - 1) (fun gh i v wr => LqR s w R gh i v wr)
    case atStart => exact ⟨1, [], rfl, by go_num, by omega, by simp, hR0.out, World.ownsRow_nil _ _ _ _, Below.refl _ _⟩
    case round =>
      clear q4 hR0 h3 qn
      obtain ⟨k, out, rfl, rfl, hk, hol, hun, hown, hb⟩ := hrel
      have hsize := hb.size
      by_cases hlt : k < s.length
      · have hby := ba_at hlt (by rw [ba_size]; exact hlt)
        have hdk : s.drop k = s[k] :: s.drop (k + 1) := List.drop_eq_getElem_cons hlt
        rw [hdk] at hun
        by_cases c34 : s[k] = 34
        · have q4 : (((⟨s.toArray⟩ : ByteArray)[k]'(by rw [ba_size]; exact hlt)).toNat : Int) = 34 := by rw [hby, c34]; rfl
          rw [c34, unqS_end] at hun
          replace hun := Lib.hid hun
          clear hby hdk c34
          go_wp2_with fail
          all_goals go_ret3
          all_goals exact UnqIs.mk hun.out.symm hown hb
        · have q4 : ((((⟨s.toArray⟩ : ByteArray)[k]'(by rw [ba_size]; exact hlt)).toNat : Int) == 34) = false := by
            rw [hby]; simp only [beq_eq_false_iff_ne, ne_eq]; intro e; exact c34 (UInt8.toNat_inj.1 (by rw [show (34 : UInt8).toNat = 34 from rfl]; omega))
          by_cases c92 : s[k] = 92
          · have q5 : (((⟨s.toArray⟩ : ByteArray)[k]'(by rw [ba_size]; exact hlt)).toNat : Int) = 92 := by rw [hby, c92]; rfl
            rw [c92] at hun
            clear q4 hby hdk c34 c92
            have he := esc_any (s.drop (k + 1)) (by rw [List.length_drop]; omega)
            have hx : (⟨s.toArray⟩ : ByteArray).extract (k + 1) s.length = ⟨(s.drop (k + 1)).toArray⟩ := by rw [ext_list, List.take_of_length_le (by simp)]
            unfold strV at he
            rw [← hx] at he
            unfold escT at he
            cases hes : escS (s.drop (k + 1)) with
            | error x =>
              rw [hes] at he
              rw [unqS_err out k _ x hes] at hun
              have q6 : x ≠ 0 := by
                intro e; subst e
                have := escS_err hes
                omega
              have q7 : (x != 0) = true := by simpa using q6
              replace he := Lib.hid he
              replace hun := Lib.hid hun
              replace q6 := Lib.hid q6
              replace hx := Lib.hid hx
              replace hes := Lib.hid hes
              go_wp2_with (go_at_call 85; refine (he.out _).mono ?_; rintro e w2 ⟨rfl, rfl⟩)
              all_goals go_ret3
              all_goals exact UnqIs.err hun.out.symm hb
            | ok xn =>
              obtain ⟨x, n⟩ := xn
              rw [hes] at he
              rw [unqS_esc out k _ x n hes] at hun
              obtain ⟨hn1, hn2⟩ := escS_len hes
              rw [List.length_drop] at hn2
              rw [List.drop_drop] at hun
              replace he := Lib.hid he
              replace hun := Lib.hid hun
              replace hx := Lib.hid hx
              replace hes := Lib.hid hes
              go_wp2_with (first
                | (go_at_call 85; refine (he.out _).mono ?_; rintro e w2 ⟨rfl, rfl⟩)
                | (at_builtin; refine wpList_append_own _ rfl (.tmp 65) (.tmp 67) 23 rfl w.heap.size 5 i0 (.int .u8 0) 1 1 Tryd.underlying23 hi hz0 hz1 hz2 rfl (by decide) _ _ _ rfl (hown.alloc _) ⟨w2.heap.size, 0, none⟩ 1 1 [.int .u8 (x.toNat : Int)] rfl rfl (cell_one_new _ _ _) (by intro u hu; simp at hu; subst hu; rfl) (by unfold maxLen; omega) (by omega) (by simp; omega) ?_; intro v1 w1 hown1 hgrow1 hnil1))
              all_goals go_roundg (s.length - (k + 1 + n))
              case measure => omega
              case rel => exact lq_snoc (k := k) (k2 := k + 1 + n) rfl (by omega) (by omega) hol hun.out hown hown1 hb hgrow1
          · have q5 : ((((⟨s.toArray⟩ : ByteArray)[k]'(by rw [ba_size]; exact hlt)).toNat : Int) == 92) = false := by
              rw [hby]; simp only [beq_eq_false_iff_ne, ne_eq]; intro e; exact c92 (UInt8.toNat_inj.1 (by rw [show (92 : UInt8).toNat = 92 from rfl]; omega))
            rw [unqS_plain out k s[k] _ c34 c92] at hun
            replace hun := Lib.hid hun
            clear hdk c34 c92
            replace hby := Lib.hid hby
            go_wp2_with (at_builtin; refine wpList_append_own _ rfl (.tmp 44) (.tmp 46) 23 rfl w.heap.size 5 i0 (.int .u8 0) 1 1 Tryd.underlying23 hi hz0 hz1 hz2 rfl (by decide) _ _ _ rfl (hown.alloc _) ⟨wr.heap.size, 0, none⟩ 1 1 [.int .u8 (((⟨s.toArray⟩ : ByteArray)[k]'(by rw [ba_size]; exact hlt)).toNat : Int)] rfl rfl (cell_one_new _ _ _) (by intro u hu; simp at hu; subst hu; rfl) (by unfold maxLen; omega) (by omega) (by simp; omega) ?_; intro v1 w1 hown1 hgrow1 hnil1)
            all_goals go_roundg (s.length - (k + 1))
            case measure => omega
            case rel => exact lq_snoc (k := k) (k2 := k + 1) rfl (by omega) (by omega) hol hun.out hown (by rw [← hby.out]; exact hown1) hb hgrow1
      · obtain rfl : k = s.length := by omega
        rw [List.drop_length, unqS_nil] at hun
        replace hun := Lib.hid hun
        go_wp2_with fail
        all_goals go_ret3
        all_goals exact UnqIs.err hun.out.symm hb
  · have hR : unquoteS s 0 = ([], 0, 9) := by unfold unquoteS; rw [if_neg (by omega), show (0 : Int).toNat = 0 from rfl, hd]; simp only; rw [if_pos h4]
    rw [hR]
    have q4 : ((((⟨s.toArray⟩ : ByteArray)[0]'(by rw [ba_size]; exact h3)).toNat : Int) == 34) = false := by
      rw [hby]; simp only [beq_eq_false_iff_ne, ne_eq]; intro e; exact h4 (UInt8.toNat_inj.1 (by rw [show (34 : UInt8).toNat = 34 from rfl]; omega))
    have q5 : ((((⟨s.toArray⟩ : ByteArray)[0]'(by rw [ba_size]; exact h3)).toNat : Int) != 34) = true := by simp only [bne, q4]; rfl
    clear hR hd h4 hby h2
    go_enter Tryd.func74, Tryd.ntmps74
    go_wp2_with fail
    all_goals go_ret3
    all_goals exact UnqIs.err rfl (Below.refl _ _)
end Go.Proofs.YtaginadnaajleaaDoor
/-
  strings.Cut at a blank; book.quote; of chapter 32.
  Conditions: as each theorem states them.
-/
namespace Go.Proofs.YtaginadnaajleaaDoor
open Go.RowKit
set_option linter.unusedVariables false
set_option linter.unusedSimpArgs false
theorem ix_blank (s : List UInt8) : Lib.indexByte s 32 = if (s.takeWhile OM.nb).length = s.length then -1 else ((s.takeWhile OM.nb).length : Int) := by
  induction s with
  | nil => rfl
  | cons c r ih =>
    unfold Lib.indexByte
    rw [ih]
    by_cases hc : c = 32
    · subst hc
      simp [OM.nb, List.takeWhile]
    · have h1 : OM.nb c = true := by unfold OM.nb; simpa using hc
      have h2 : (c == 32) = false := by simpa using hc
      rw [h2, List.takeWhile_cons, h1]
      simp only [if_true, List.length_cons, Nat.add_right_cancel_iff]
      by_cases hr : (r.takeWhile OM.nb).length = r.length
      · simp [hr]
      · simp only [if_neg hr]
        have : (((r.takeWhile OM.nb).length : Int) == -1) = false := by first | (simp; done) | (simp; omega)
        rw [this]; simp
theorem tw_take (s : List UInt8) : s.take (s.takeWhile OM.nb).length = s.takeWhile OM.nb := by
  induction s with
  | nil => rfl
  | cons c r ih => rw [List.takeWhile_cons]; split <;> simp_all
theorem tw_le (s : List UInt8) : (s.takeWhile OM.nb).length ≤ s.length := (List.takeWhile_sublist OM.nb (l := s)).length_le
set_option maxHeartbeats 2000000 in
theorem cutB_any (s : List UInt8) (hl : s.length ≤ 100000) (w : World) : Calls Tryd.prog 51 #[strV s, .string ⟨#[32]⟩] w fun e w' => e = .returned (.tuple #[strV (BM.cut s).1, strV (BM.cut s).2.1, .bool (BM.cut s).2.2]) ∧ ∃ m, w' = w.drewN m := by
  have hi := fun W => Tryd.stringslite_Index_one ⟨s.toArray⟩ 32 W
  have hle := tw_le s
  have hix := ix_blank s
  have hd : (⟨s.toArray⟩ : ByteArray).data.toList = s := by simp
  rw [hd, hix] at hi
  have htk := tw_take s
  by_cases hc : (s.takeWhile OM.nb).length = s.length
  · rw [if_pos hc] at hi
    have hR : BM.cut s = (s, [], false) := by
      unfold BM.cut
      rw [hc, List.take_length] at htk
      rw [← htk, List.drop_eq_nil_of_le (by omega)]; simp
    rw [hR]
    replace hi := Lib.hid hi
    clear hix hd htk hc hR
    go_enter Tryd.func51, Tryd.ntmps51
    go_wp2_with (go_at_call 62; refine (hi.out _).mono ?_; rintro e w2 ⟨rfl, rfl⟩)
    all_goals go_ret3
    all_goals exact ⟨rfl, 0, rfl⟩
  · rw [if_neg hc] at hi
    obtain ⟨i, hn⟩ : ∃ i, (s.takeWhile OM.nb).length = i := ⟨_, rfl⟩
    rw [hn] at hi htk hle hc
    have hR : BM.cut s = (s.take i, s.drop (i + 1), true) := by
      unfold BM.cut
      rw [hn, htk, decide_eq_true (by omega)]
    have hx1 : (⟨s.toArray⟩ : ByteArray).extract 0 i = ⟨(s.take i).toArray⟩ := by rw [ext_list]; simp
    have hx2 : (⟨s.toArray⟩ : ByteArray).extract (i + 1) s.length = ⟨(s.drop (i + 1)).toArray⟩ := by rw [ext_list, List.take_of_length_le (by simp)]
    rw [hR]
    replace hi := Lib.hid hi
    replace hx1 := Lib.hid hx1
    replace hx2 := Lib.hid hx2
    have hi1 : i < s.length := by omega
    clear hix hd htk hc hR hn
    go_enter Tryd.func51, Tryd.ntmps51
    go_wp2_with (first | (go_at_call 62; refine (hi.out _).mono ?_; rintro e w2 ⟨rfl, rfl⟩) | (go_quiet (fail)))
    all_goals go_ret3
    all_goals exact ⟨by simp only [hx1.out, hx2.out]; rfl, _, rfl⟩
set_option maxHeartbeats 2000000 in
theorem cut_any (s : List UInt8) (hl : s.length ≤ 100000) (w : World) : Calls Tryd.prog 21 #[strV s, .string ⟨#[32]⟩] w fun e w' => e = .returned (.tuple #[strV (BM.cut s).1, strV (BM.cut s).2.1, .bool (BM.cut s).2.2]) ∧ ∃ m, w' = w.drewN m := by
  have hc := Lib.hid (cutB_any s hl w)
  go_enter Tryd.func21, Tryd.ntmps21
  go_wp2_with (go_at_call 51; refine hc.out.mono ?_; rintro e w2 ⟨rfl, m, rfl⟩)
  all_goals go_ret3
  all_goals exact ⟨rfl, m, rfl⟩
/-- what book.quote answers -/
def QuIs (R : List UInt8 × Int) (w : World) (e : Ending) (w' : World) : Prop := ∃ v l, e = .returned (.tuple #[v, .int .i64 R.2]) ∧ (R.2 = 0 → l = R.1) ∧ w'.ownsRow w.heap.size 5 1 v l.length (Lib.byteCells l) ∧ Below w.heap.size w w'
set_option maxHeartbeats 2000000 in
theorem bquote_any (s : List UInt8) (hl : s.length ≤ 100000) (w : World) : Calls Tryd.prog 58 #[strV s] w (QuIs (BM.quoteAll s) w) := by
  have hu := Lib.hid (unquote_any s hl w)
  have hq : BM.quoteAll s = if (unquoteS s 0).2.2 = 0 ∧ (unquoteS s 0).2.1 < s.length then ((unquoteS s 0).1, 9) else ((unquoteS s 0).1, (unquoteS s 0).2.2) := rfl
  generalize unquoteS s 0 = R at *
  obtain ⟨l, p, c⟩ := R
  simp only at hq
  unfold UnqIs at hu
  generalize BM.quoteAll s = Q at *
  by_cases h0 : c = 0
  · have q0 : (c == 0) = true := by simpa using h0
    by_cases h1 : p < s.length
    · rw [if_pos ⟨h0, h1⟩] at hq
      replace hq := Lib.hid hq
      have q1 : decide (p < (s.length : Int)) = true := by simpa using h1
      replace h0 := Lib.hid h0
      replace h1 := Lib.hid h1
      go_enter Tryd.func58, Tryd.ntmps58
      go_wp2_with (go_at_call 74; refine hu.out.mono ?_; rintro e w2 ⟨v, rfl, ho, hb⟩)
      all_goals go_ret2
      all_goals exact ⟨v, l, by rw [hq.out]; rfl, fun _ => by rw [hq.out], ho, hb⟩
    · rw [if_neg (fun h => h1 h.2)] at hq
      replace hq := Lib.hid hq
      have q1 : decide (p < (s.length : Int)) = false := by simpa using h1
      replace h0 := Lib.hid h0
      replace h1 := Lib.hid h1
      go_enter Tryd.func58, Tryd.ntmps58
      go_wp2_with (go_at_call 74; refine hu.out.mono ?_; rintro e w2 ⟨v, rfl, ho, hb⟩)
      all_goals go_ret2
      all_goals exact ⟨v, l, by rw [hq.out]; rfl, fun _ => by rw [hq.out], ho, hb⟩
  · rw [if_neg (fun h => h0 h.1)] at hq
    replace hq := Lib.hid hq
    have q0 : (c == 0) = false := by simpa using h0
    replace h0 := Lib.hid h0
    go_enter Tryd.func58, Tryd.ntmps58
    go_wp2_with (go_at_call 74; refine hu.out.mono ?_; rintro e w2 ⟨v, rfl, ho, hb⟩)
    all_goals go_ret2
    all_goals exact ⟨v, l, by rw [hq.out]; rfl, fun _ => by rw [hq.out], ho, hb⟩
end Go.Proofs.YtaginadnaajleaaDoor
/-
  book.num: a number that goes to the end; of chapter 32.
  Conditions: as each theorem states them.
-/
namespace Go.Proofs.YtaginadnaajleaaDoor
open Go.RowKit
set_option linter.unusedVariables false
set_option linter.unusedSimpArgs false
def AllB (p : UInt8 → Bool) (k : Nat) (xs : List UInt8) : Prop := ∀ i (h : i < xs.length), i < k → p xs[i] = true
theorem AllB.succ {p : UInt8 → Bool} {k : Nat} {xs : List UInt8} (h : AllB p k xs) (hk : k < xs.length) (e : p xs[k] = true) : AllB p (k + 1) xs := fun i hi hlt => by
  by_cases hik : i = k
  · subst hik; exact e
  · exact h i hi (by omega)
theorem AllB.all {p : UInt8 → Bool} {k : Nat} {xs : List UInt8} (h : AllB p k xs) (hk : xs.length ≤ k) : xs.all p = true := by
  rw [List.all_eq_true]
  intro x hx
  obtain ⟨i, hi, e⟩ := List.mem_iff_getElem.1 hx
  subst e
  exact h i hi (by omega)
theorem all_not {p : UInt8 → Bool} {k : Nat} {xs : List UInt8} (hk : k < xs.length) (e : p xs[k] = false) : xs.all p = false := by
  rw [Bool.eq_false_iff]
  intro h
  rw [List.all_eq_true] at h
  rw [h _ (List.getElem_mem hk)] at e
  cases e
/-- '[]byte(s)' -/
theorem conv_bytes {P : Program} (w : World) (src dst e : TypeId) (xs : List UInt8) (hs : P.underlying src = some .string) (hd : P.underlying dst = some (.slice e)) (he : P.underlying e = some (.int .u8)) :
    ∃ c w', (convert src dst (strV xs)).run P w = .ok (.slice (some ⟨w.heap.size, 0, none⟩) xs.length c) w' ∧ Below w.heap.size w w' ∧ ByteRow w' w.heap.size 0 xs ∧ w.heap.size < w'.heap.size := by
  have h := run_bytes_of_string (P := P) w src dst e ⟨xs.toArray⟩ hs hd he
  rw [show (⟨xs.toArray⟩ : ByteArray).size = xs.length from ba_size xs] at h
  refine ⟨_, _, h, bl_alloc (bl_drew (Below.refl _ _)) _, fun i hi => ?_, by simp⟩
  rw [Nat.zero_add]
  have hsz : i < (⟨xs.toArray⟩ : ByteArray).data.size := by simpa using hi
  exact (World.cell?_alloc_mark w.drew _ _ _ i).trans ((bytesRow_at _ _ _ hsz).trans (by simp))
theorem isDig_any (c : Int) (hc : 0 ≤ c ∧ c ≤ 255) (w : World) : Calls Tryd.prog 56 #[.string ⟨#[100, 105, 103, 105, 116]⟩, .int .u8 c] w fun e w' => e = .returned (.tuple #[.bool (wi c 48 57), .bool true]) ∧ w = w' := by
  have h := is_any ⟨#[100, 105, 103, 105, 116]⟩ c hc w
  have e : isS (⟨#[100, 105, 103, 105, 116]⟩ : ByteArray).toList c = (wi c 48 57, true) := by
    rw [show (⟨#[100, 105, 103, 105, 116]⟩ : ByteArray).toList = [100, 105, 103, 105, 116] by decide +kernel]
    rfl
  rw [e] at h
  exact h
theorem bnum_all {xs : List UInt8} {k : Nat} (h : AllB dig k xs) (hk : xs.length ≤ k) : BM.numAll xs = ((numS xs 0 1073741824).1, (numS xs 0 1073741824).2.2) := by
  unfold BM.numAll; rw [if_pos (h.all hk)]
theorem bnum_not {xs : List UInt8} {k : Nat} (hk : k < xs.length) (e : dig xs[k] = false) : BM.numAll xs = (0, 9) := by
  unfold BM.numAll; rw [if_neg (by rw [all_not hk e]; simp)]
theorem wi_dig (c : UInt8) : wi (c.toNat : Int) 48 57 = dig c := by
  unfold wi dig
  rw [Bool.eq_iff_iff]; simp; omega
theorem ret_ii {p : Int × Int} {a b : Int} (h : p = (a, b)) : Ending.returned (.tuple #[.int .i64 a, .int .i64 b]) = .returned (.tuple #[.int .i64 p.1, .int .i64 p.2]) := by rw [h]
set_option maxHeartbeats 2000000 in
theorem bnum_any (xs : List UInt8) (w : World) (hs : xs.length ≤ 1000000) :
    Calls Tryd.prog 41 #[strV xs] w fun e w' => e = .returned (.tuple #[.int .i64 (BM.numAll xs).1, .int .i64 (BM.numAll xs).2]) ∧ Below w.heap.size w w' := by
  obtain ⟨c1, w1, hc1, hb1, hr1, hl1⟩ := conv_bytes (P := Tryd.prog) w 9 23 5 xs Tryd.underlying9 Tryd.underlying23 Tryd.underlying5
  obtain ⟨c2, w2, hc2, hb2, hr2, hl2⟩ := conv_bytes (P := Tryd.prog) w1 9 23 5 xs Tryd.underlying9 Tryd.underlying23 Tryd.underlying5
  replace hr1 := Lib.hid hr1
  have hn2 := Lib.hid (num_in (some ⟨w1.heap.size, 0, none⟩) c2 xs 0 1073741824 w2 (by omega) (by omega) (by omega) (fun _ => ⟨_, _, rfl, hr2⟩) : Calls Tryd.prog 57 #[.slice (some ⟨w1.heap.size, 0, none⟩) xs.length c2, .int .i64 0, .int .i64 1073741824] w2 fun e w' => e = .returned (.tuple #[.int .i64 (numS xs 0 1073741824).1, .int .i64 (numS xs 0 1073741824).2.1, .int .i64 (numS xs 0 1073741824).2.2]) ∧ w2 = w')
  clear hr2
  go_enter Tryd.func41, Tryd.ntmps41
  go_wp2_with fail
  clear hc1
  go_loopg [14] xs.length (fun g i wr => ∃ k : Nat, g = xs.length - k ∧ i = .int .i64 (k : Int) ∧ k ≤ xs.length ∧ AllB dig k xs ∧ w1 = wr)
  case atStart => exact ⟨0, rfl, rfl, by omega, fun i _ h => by omega, rfl⟩
  case round =>
    obtain ⟨k, rfl, rfl, hk, hn, rfl⟩ := hrel
    by_cases hlt : k < xs.length
    · have ck := hr1.out k hlt
      rw [Nat.zero_add] at ck
      have hdd := Lib.hid (isDig_any (xs[k].toNat : Int) (by have := xs[k].toNat_lt; omega) w1)
      rw [wi_dig] at hdd
      clear hc2
      by_cases hp : dig xs[k] = true
      · have hn' := hn.succ hlt hp
        rw [hp] at hdd
        clear hn hp
        go_wp2_with (go_at_call 56; refine hdd.out.mono ?_; rintro e w' ⟨rfl, rfl⟩)
        all_goals go_roundg (xs.length - (k + 1))
        case measure => omega
        case rel => exact ⟨k + 1, rfl, by go_num, by omega, hn', rfl⟩
      · rw [Bool.not_eq_true] at hp
        have hf := Lib.hid (bnum_not hlt hp)
        rw [hp] at hdd
        clear hn hp
        go_wp2_with (go_at_call 56; refine hdd.out.mono ?_; rintro e w' ⟨rfl, rfl⟩)
        all_goals go_ret2
        all_goals exact ⟨ret_ii hf.out, hb1⟩
    · have hf := Lib.hid (bnum_all hn (by omega))
      clear hn
      go_wp2_with (go_at_call 57; refine hn2.out.mono ?_; rintro e w' ⟨rfl, rfl⟩)
      all_goals go_ret2
      all_goals exact ⟨ret_ii hf.out, bl_trans hb1 hb2⟩
end Go.Proofs.YtaginadnaajleaaDoor
/-
  slices.Clone of bytes, lines.Cut; of chapter 02.
  Conditions: as each theorem states them.
-/
namespace Go.Proofs.YtaginadnaajleaaDoor
open Go.RowKit
set_option linter.unusedVariables false
set_option linter.unusedSimpArgs false
def BytesAt (w : World) (ba : Option Addr) (xs : List UInt8) : Prop := 0 < xs.length → ∃ p o, ba = some ⟨p, o, none⟩ ∧ p < w.heap.size ∧ ByteRow w p o xs
theorem BytesAt.below {w w' : World} {ba : Option Addr} {xs : List UInt8} (h : BytesAt w ba xs) (hb : Below w.heap.size w w') : BytesAt w' ba xs := fun h0 => by
  obtain ⟨p, o, e, hp, hr⟩ := h h0
  exact ⟨p, o, e, Nat.lt_of_lt_of_le hp hb.size, fun i hi => (hb.cell (p := ⟨p, o + i, none⟩) hp).trans (hr i hi)⟩
theorem byteCells_get {xs : List UInt8} {j : Nat} {u : Value} (h : (Lib.byteCells xs)[j]? = some u) : ∃ hj : j < xs.length, u = .int .u8 (xs[j].toNat : Int) := by
  unfold Lib.byteCells at h
  rw [List.getElem?_map] at h
  obtain ⟨y, hy, rfl⟩ := Option.map_eq_some_iff.1 h
  obtain ⟨hj, rfl⟩ := List.getElem?_eq_some_iff.1 hy
  exact ⟨hj, rfl⟩
set_option maxHeartbeats 2000000 in
theorem clone_any (p o c : Nat) (xs : List UInt8) (hl : xs.length ≤ 1000000) (w : World) (hp : p < w.heap.size) (hr : ByteRow w p o xs) :
    Calls Tryd.prog 61 #[.slice (some ⟨p, o, none⟩) xs.length c] w fun e w' => ∃ v, e = .returned v ∧ w'.ownsRow w.heap.size 5 1 v xs.length (Lib.byteCells xs) ∧ Below w.heap.size w w' := by
  obtain ⟨i0, hi, hz0, hz1, hz2⟩ := info_parts infoByteB
  have hown := Lib.hid (World.ownsRow_made (base := w.heap.size) (e := 5) (size := 1) w #[] 0 (Nat.le_refl _) (by decide) rfl)
  have hcells : ∀ j u, (Lib.byteCells xs)[j]? = some u → (w.alloc (.cells #[] 5)).cell? ((⟨p, o, none⟩ : Addr).add j) = some u := fun j u h => by
    obtain ⟨hj, rfl⟩ := byteCells_get h
    have e1 : (⟨p, o, none⟩ : Addr).add j = ⟨p, o + j, none⟩ := by unfold Addr.add; by_cases h0 : j = 0 <;> simp [h0]
    rw [e1]
    exact ((bl_alloc (Below.refl w.heap.size w) _).cell (p := ⟨p, o + j, none⟩) hp).trans (hr j hj)
  replace hcells := Lib.hid hcells
  have q22 : ∀ (w : World) (a : Option Addr) (n c n' c' : Nat), (binOp .eql 23 (.slice a n c) (.slice none n' c')).run Tryd.prog w = .ok (.bool a.isNone) w := fun w a n c n' c' => Lib.run_eql_slice_nil w _ _ a n c n' c' Tryd.underlying23
  obtain ⟨n, hn⟩ : ∃ n, xs.length = n := ⟨_, rfl⟩
  have hbl : (Lib.byteCells xs).length = n * 1 := by rw [Nat.mul_one, ← hn]; simp [Lib.byteCells]
  rw [hn] at hl ⊢
  replace hbl := Lib.hid hbl
  clear hr hn
  go_enter Tryd.func61, Tryd.ntmps61
  go_wp2_with (at_builtin; refine wpList_append_own _ rfl (.tmp 5) (.tmp 6) 23 rfl w.heap.size 5 i0 (.int .u8 0) 1 1 Tryd.underlying23 hi hz0 hz1 hz2 rfl (by decide) _ _ _ rfl hown.out ⟨p, o, none⟩ n c (Lib.byteCells xs) rfl hbl.out hcells.out (by intro u hu; obtain ⟨j, hj⟩ := List.mem_iff_getElem?.1 hu; obtain ⟨_, rfl⟩ := byteCells_get hj; rfl) (by unfold maxLen; omega) (by omega) (by simp) ?_; intro v1 w1 hown1 hgrow1 hnil1)
  all_goals go_ret
  all_goals exact ⟨_, rfl, by simpa using hown1, (bl_alloc (Below.refl _ _) _).grown hgrow1 (by simp) (fun j hj => (hown.out.lt j hj).1)⟩
end Go.Proofs.YtaginadnaajleaaDoor
