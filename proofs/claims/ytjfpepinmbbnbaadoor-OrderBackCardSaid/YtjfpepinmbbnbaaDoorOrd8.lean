/-
  The contract of the way through a line's words, of chapter 29.
  Conditions: as each theorem states them.
-/
import Derived.Test.YtjfpepinmbbnbaaDoorOrd2
import Derived.Test.YtjfpepinmbbnbaaDoorShelf
import Derived.Test.YtjfpepinmbbnbaaDoorIter
import Derived.RangeFuncNested
import Derived.Lib.IndexLaws
namespace Go.Proofs.YtjfpepinmbbnbaaDoor
open Go.RowKit Go.Shelf
set_option linter.unusedVariables false
set_option linter.unusedSimpArgs false
attribute [local go_sem] Oper.semAt_some
abbrev Item := Nat × List UInt8
theorem takeWhile_idx (l : List UInt8) : Lib.indexByte l 32 = if (l.takeWhile OM.nb).length = l.length then -1 else ((l.takeWhile OM.nb).length : Int) := by
  induction l with
  | nil => rfl
  | cons c l ih =>
    simp only [Lib.indexByte]
    by_cases h : c = 32
    · subst h; simp [OM.nb]
    · have h1 : (c == 32) = false := by simpa using h
      have h2 : OM.nb c = true := by simpa [OM.nb] using h
      rw [h1, List.takeWhile_cons, if_pos h2, ih]
      by_cases h3 : (l.takeWhile OM.nb).length = l.length
      · simp [h3]
      · first | (simp [h3]; done) | (simp [h3]; omega)
theorem dropWhile_eq (p : UInt8 → Bool) (l : List UInt8) : l.dropWhile p = l.drop (l.takeWhile p).length := by
  induction l with
  | nil => rfl
  | cons c l ih =>
    rw [List.dropWhile_cons, List.takeWhile_cons]
    by_cases h : p c = true
    · rw [if_pos h, if_pos h]; simpa using ih
    · rw [if_neg h, if_neg h]; rfl
def wordAt (L : List UInt8) (a : Nat) : List UInt8 := (L.drop a).takeWhile OM.nb
theorem wds_at {L : List UInt8} {a : Nat} (h : a < L.length) (hc : L[a] ≠ 32) : OM.wds a (L.drop a) = (a, wordAt L a) :: OM.wds (a + (wordAt L a).length) (L.drop (a + (wordAt L a).length)) := by
  have e : L.drop a = L[a] :: L.drop (a + 1) := List.drop_eq_getElem_cons h
  have hn : OM.nb L[a] = true := by simpa [OM.nb] using hc
  have hw : wordAt L a = L[a] :: (L.drop (a + 1)).takeWhile OM.nb := by unfold wordAt; rw [e, List.takeWhile_cons, if_pos hn]
  rw [e, OM.wds_word _ _ _ hc, hw]
  rw [dropWhile_eq, List.drop_drop]
  have e1 : a + 1 + ((L.drop (a + 1)).takeWhile OM.nb).length = a + (L[a] :: (L.drop (a + 1)).takeWhile OM.nb).length := by simp; omega
  rw [e1]
theorem wds_skip {L : List UInt8} {a : Nat} (h : a < L.length) (hc : L[a] = 32) : OM.wds a (L.drop a) = OM.wds (a + 1) (L.drop (a + 1)) := by
  have e : L.drop a = L[a] :: L.drop (a + 1) := List.drop_eq_getElem_cons h
  rw [e, hc, OM.wds_blank]
theorem ext_list (L : List UInt8) (a b : Nat) : (⟨L.toArray⟩ : ByteArray).extract a b = ⟨((L.drop a).take (b - a)).toArray⟩ := by
  apply ByteArray.ext
  simp [ByteArray.data_extract, List.extract_eq_take_drop]
theorem idx_word {L : List UInt8} {a : Nat} : Lib.indexByte ((⟨L.toArray⟩ : ByteArray).extract a L.length).data.toList (32 : Int).toNat.toUInt8 = if (wordAt L a).length = L.length - a then -1 else ((wordAt L a).length : Int) := by
  rw [ext_list]
  have h := takeWhile_idx (L.drop a)
  rw [show (L.drop a).takeWhile OM.nb = wordAt L a from rfl, List.length_drop] at h
  rw [← h]
  have e : ((L.drop a).take (L.length - a)) = L.drop a := List.take_of_length_le (by simp)
  simp only [e]
  rfl
theorem word_ext {L : List UInt8} {a q : Nat} (h : q = a + (wordAt L a).length) : (⟨L.toArray⟩ : ByteArray).extract a q = ⟨(wordAt L a).toArray⟩ := by
  rw [ext_list, h]
  congr 2
  rw [Nat.add_sub_cancel_left]
  unfold wordAt
  generalize L.drop a = l
  induction l with
  | nil => rfl
  | cons c l ih =>
    rw [List.takeWhile_cons]
    by_cases h : OM.nb c = true
    · rw [if_pos h]; simpa using ih
    · rw [if_neg h]; rfl
set_option maxRecDepth 100000 in
set_option maxHeartbeats 4000000 in
theorem words_in (l Bs : Nat) (L : List UInt8) (S : Nat → Prop) (hL : L.length ≤ 100000) (hBS : ¬ S Bs) (J Jx : List Item → World → Prop)
    (hY : ∀ pre (x : Item) W, J pre W → pre.length < (OM.wds 0 L).length → YieldAt Fence.wide (3 - 1) Tryd.prog l #[.int .i64 (x.1 : Int), strV x.2] W fun e W' =>
      (e = .returned (.bool true) ∧ J (pre ++ [x]) W' ∧ Only S W W') ∨ (e = .returned (.bool false) ∧ Jx (pre ++ [x]) W'))
    (W : World) (hBW : Bs < W.heap.size) (hBs : W.cell? ⟨Bs, 0, none⟩ = some (strV L)) (h0 : J [] W) :
    CallsIn Fence.wide 3 Tryd.prog 80 #[.func (.yield l) #[] #[], .pointer (some ⟨Bs, 0, none⟩)] W fun e W' => (∃ v, e = .returned v) ∧
      ((∃ ys, ys = OM.wds 0 L ∧ J ys W') ∨ (∃ pre, (∃ k, k ≤ (OM.wds 0 L).length ∧ pre = (OM.wds 0 L).take k) ∧ Jx pre W')) := by
  refine callsIn_of_wp Tryd.func80 rfl trivial ?_ rfl
  simp only [Tryd.ntmps80, List.size_toArray, List.length_cons, List.length_nil, Nat.reduceAdd, Nat.reduceSub, Array.replicate_succ, Array.replicate_zero, List.push_toArray, List.append_toArray, List.nil_append, List.cons_append]
  gi_wp2
  gi_loopw [3] (fun i wr => ∃ (a : Nat) (pre : List Item), a ≤ L.length ∧ i = .int .i64 (a : Int) ∧ OM.wds 0 L = pre ++ OM.wds a (L.drop a) ∧ J pre wr ∧ Only S W wr) (fun i _ => L.length - (intOf i).toNat)
  case atStart => exact ⟨0, [], Nat.zero_le _, rfl, by simp, h0, Only.refl _ _⟩
  case round =>
    obtain ⟨a, pre, ha, rfl, hw, hJs, hnx⟩ := hrel
    have hBr := (only_cell hnx hBW hBS (o := 0)).trans hBs
    by_cases hlt : a < L.length
    · have hby := ba_at hlt (by rw [ba_size]; exact hlt)
      by_cases hc : L[a] = 32
      · have hw' := hw.trans (by rw [wds_skip hlt hc] : pre ++ OM.wds a (L.drop a) = pre ++ OM.wds (a + 1) (L.drop (a + 1)))
        have q1 : (((⟨L.toArray⟩ : ByteArray)[a]'(by rw [ba_size]; exact hlt)).toNat : Int) = 32 := by rw [hby, hc]; rfl
        replace hw' := Lib.hid hw'
        replace hc := Lib.hid hc
        clear hw hY hby
        gi_wp2
        go_roundw
        case rel => exact ⟨a + 1, pre, by omega, by go_num, hw'.out, hJs, hnx⟩
        case measure => simp [intOf]; omega
      · have hwd := wds_at hlt hc
        have hwl : (wordAt L a).length ≤ L.length - a := by unfold wordAt; have := (List.takeWhile_sublist OM.nb (l := L.drop a)).length_le; simpa using this
        have hw0 : 0 < (wordAt L a).length := by
          unfold wordAt
          rw [List.drop_eq_getElem_cons hlt, List.takeWhile_cons, if_pos (by simpa [OM.nb] using hc)]
          simp
        have hix := takeWhile_idx (L.drop a)
        rw [show (L.drop a).takeWhile OM.nb = wordAt L a from rfl, List.length_drop] at hix
        have q1 : ((((⟨L.toArray⟩ : ByteArray)[a]'(by rw [ba_size]; exact hlt)).toNat : Int) == 32) = false := by
          rw [hby]; simp only [beq_eq_false_iff_ne, ne_eq]; intro e; exact hc (UInt8.toNat_inj.1 (by rw [show (32 : UInt8).toNat = 32 from rfl]; omega))
        have hw2 := hw
        rw [hwd] at hw2
        have hpl : pre.length < (OM.wds 0 L).length := by rw [hw2]; simp
        obtain ⟨fn, tmps, assign, body, hy, hR⟩ := hY pre (a, wordAt L a) wr hJs hpl
        have hib := fun (W' : World) => Tryd.strings_IndexByte ((⟨L.toArray⟩ : ByteArray).extract a L.length) 32 W'
        simp only [idx_word] at hib
        have hwe := fun q => word_ext (L := L) (a := a) (q := q)
        obtain ⟨m, hm⟩ : ∃ m, (wordAt L a).length = m := ⟨_, rfl⟩
        rw [hm] at hib hwl hw0 hwe
        have hnx' := hw2
        rw [hm] at hnx'
        replace hw := Lib.hid hw
        replace hw2 := Lib.hid hw2
        replace hwd := Lib.hid hwd
        replace hix := Lib.hid hix
        replace hc := Lib.hid hc
        replace hm := Lib.hid hm
        replace hnx' := Lib.hid hnx'
        clear hY hby
        by_cases hend : m = L.length - a
        · rw [if_pos hend] at hib
          have hwe1 := Lib.hid (hwe L.length (by omega))
          replace hib := Lib.hid hib
          replace hwe := Lib.hid hwe
          have hal : a + m = L.length := by omega
          replace hend := Lib.hid hend
          replace hal := Lib.hid hal
          gi_wp2
          refine ⟨trivial, (callsIn_wide.2 (hib.out wr)).mono ?_⟩
          rintro e W2 ⟨rfl, rfl⟩
          have z := hwe1.out
          gi_wp2
          refine hR.mono ?_
          clear z
          rintro e W3 (⟨rfl, hJ3, hk3⟩ | ⟨rfl, hJx3⟩)
          · gi_wp2
            go_roundw
            case rel => exact ⟨a + m, pre ++ [(a, wordAt L a)], by omega, congrArg (Value.int .i64) (by have := hal.out; omega), by rw [List.append_assoc]; exact hnx'.out, hJ3, hnx.trans hk3⟩
            case measure => have := hal.out; simp [intOf]; omega
          · gi_wp2
            refine bodyPost_ret (results_none rfl _ _ _) rfl ?_
            refine ⟨⟨_, rfl⟩, .inr ⟨_, ⟨pre.length + 1, hpl, ?_⟩, hJx3⟩⟩
            rw [hw2.out, show pre ++ (a, wordAt L a) :: OM.wds (a + (wordAt L a).length) (L.drop (a + (wordAt L a).length)) = (pre ++ [(a, wordAt L a)]) ++ OM.wds (a + (wordAt L a).length) (L.drop (a + (wordAt L a).length)) by simp, List.take_left' (by simp)]
        · rw [if_neg hend] at hib
          have hwe1 := Lib.hid (hwe (a + m) rfl)
          replace hib := Lib.hid hib
          replace hwe := Lib.hid hwe
          have hal : a + m < L.length := by omega
          have b1 : (a : Int) + m ≤ L.length := by omega
          replace hend := Lib.hid hend
          gi_wp2
          refine ⟨trivial, (callsIn_wide.2 (hib.out wr)).mono ?_⟩
          rintro e W2 ⟨rfl, rfl⟩
          have z := hwe1.out
          gi_wp2
          refine hR.mono ?_
          clear z
          rintro e W3 (⟨rfl, hJ3, hk3⟩ | ⟨rfl, hJx3⟩)
          · gi_wp2
            go_roundw
            case rel => exact ⟨a + m, pre ++ [(a, wordAt L a)], by omega, by go_num, by rw [List.append_assoc]; exact hnx'.out, hJ3, hnx.trans hk3⟩
            case measure => simp [intOf]; omega
          · gi_wp2
            refine bodyPost_ret (results_none rfl _ _ _) rfl ?_
            refine ⟨⟨_, rfl⟩, .inr ⟨_, ⟨pre.length + 1, hpl, ?_⟩, hJx3⟩⟩
            rw [hw2.out, show pre ++ (a, wordAt L a) :: OM.wds (a + (wordAt L a).length) (L.drop (a + (wordAt L a).length)) = (pre ++ [(a, wordAt L a)]) ++ OM.wds (a + (wordAt L a).length) (L.drop (a + (wordAt L a).length)) by simp, List.take_left' (by simp)]
    · obtain rfl : a = L.length := by omega
      rw [List.drop_length, OM.wds_nil, List.append_nil] at hw
      replace hw := Lib.hid hw
      clear hY
      gi_wp2
      go_end0
      exact ⟨⟨_, rfl⟩, .inl ⟨_, hw.out.symm, hJs⟩⟩
end Go.Proofs.YtjfpepinmbbnbaaDoor
