/-
  show.Unquote of the program at any text, from its first byte on; of chapter 04.
  Conditions: as each theorem states them.
-/
import Derived.Test.YtcjcflmnghhbaaaGreatEsc
import Derived.Test.YtcjcflmnghhbaaaGreatBase
namespace Go.Proofs.YtcjcflmnghhbaaaGreat
open Go.RowKit
set_option linter.unusedVariables false
set_option linter.unusedSimpArgs false
theorem infoByteB : (Tryz.prog.info? 5).map (fun i => (i.zero, i.size, i.bytes)) = some (some (.int .u8 0), 1, 1) := by kernel_rfl
theorem byteCells_app (a b : List UInt8) : Lib.byteCells (a ++ b) = Lib.byteCells a ++ Lib.byteCells b := by simp [Lib.byteCells]
theorem ext_list (L : List UInt8) (a b : Nat) : (⟨L.toArray⟩ : ByteArray).extract a b = ⟨((L.drop a).take (b - a)).toArray⟩ := by
  apply ByteArray.ext
  simp [ByteArray.data_extract, List.extract_eq_take_drop]
theorem octS_err {s : List UInt8} {e : Int} (h : octS s = .error e) : e = 2 ∨ e = 10 := by
  unfold octS at h
  (repeat' split at h)
  all_goals first | (injection h with h; omega) | (simp only at h; (repeat' split at h) <;> first | (injection h with h; omega) | cases h) | cases h
theorem escS_err {s : List UInt8} {e : Int} (h : escS s = .error e) : e = 2 ∨ e = 10 := by
  unfold escS at h
  split at h
  · injection h with h; omega
  · split at h
    · cases h
    · split at h
      · cases h
      · rename_i q; injection h with h; subst h; exact octS_err q
/-- what Unquote answers -/
def UnqIs (R : List UInt8 × Int × Int) (w : World) (e : Ending) (w' : World) : Prop := ∃ v, e = .returned (.tuple #[v, .int .i64 R.2.1, .int .i64 R.2.2]) ∧ w'.ownsRow w.heap.size 5 1 v R.1.length (Lib.byteCells R.1) ∧ Below w.heap.size w w'
theorem UnqIs.mk {R : List UInt8 × Int × Int} {w w' : World} {v : Value} {l : List UInt8} {p c : Int} (h : R = (l, p, c)) (ho : w'.ownsRow w.heap.size 5 1 v l.length (Lib.byteCells l)) (hb : Below w.heap.size w w') : UnqIs R w (.returned (.tuple #[v, .int .i64 p, .int .i64 c])) w' := by
  subst h; exact ⟨v, rfl, ho, hb⟩
theorem UnqIs.err {R : List UInt8 × Int × Int} {w w' : World} {c : Int} (h : R = ([], 0, c)) (hb : Below w.heap.size w w') : UnqIs R w (.returned (.tuple #[.slice none 0 0, .int .i64 0, .int .i64 c])) w' :=
  UnqIs.mk h (World.ownsRow_nil _ _ _ _) hb
def LqR (s : List UInt8) (w : World) (R : List UInt8 × Int × Int) (gh : Nat) (i v : Value) (wr : World) : Prop := ∃ (k : Nat) (out : List UInt8), gh = s.length - k ∧ i = .int .i64 (k : Int) ∧ k ≤ s.length ∧ out.length ≤ k ∧ unqS out k (s.drop k) = R ∧ wr.ownsRow w.heap.size 5 1 v out.length (Lib.byteCells out) ∧ Below w.heap.size w wr
theorem lq_snoc {s : List UInt8} {w wr w1 : World} {R : List UInt8 × Int × Int} {gh k k2 : Nat} {out : List UInt8} {x : UInt8} {v v1 : Value} {o : Obj} (hg : gh = s.length - k2) (hk : k2 ≤ s.length) (hkk : k < k2) (hl : out.length ≤ k) (hR : unqS (out ++ [x]) k2 (s.drop k2) = R)
    (hown : wr.ownsRow w.heap.size 5 1 v out.length (Lib.byteCells out)) (ho : w1.ownsRow w.heap.size 5 1 v1 (out.length + 1) (Lib.byteCells out ++ [.int .u8 (x.toNat : Int)])) (hb : Below w.heap.size w wr) (hgr : (wr.alloc o).grownBy w1 v.ownBlock) : LqR s w R gh (.int .i64 (k2 : Int)) v1 w1 := by
  refine ⟨k2, out ++ [x], hg, rfl, hk, by simp; omega, hR, ?_, ?_⟩
  · rw [byteCells_app, List.length_append]; exact ho
  · exact (hb.alloc (by have := hb.size; omega) _).grown hgr (by have := hb.size; simp; omega) (fun j hj => (hown.lt j hj).1)
set_option maxHeartbeats 4000000 in
set_option maxRecDepth 100000 in
theorem unquote_any (s : List UInt8) (hl : s.length ≤ 100000) (w : World) :
    Calls Tryz.prog 48 #[strV s, .int .i64 0] w (UnqIs (unquoteS s 0) w) := by
  obtain ⟨i0, hi, hz0, hz1, hz2⟩ := info_parts infoByteB
  by_cases h2 : s = []
  · subst h2
    have hR : unquoteS [] 0 = ([], 0, 9) := rfl
    rw [hR]
    go_enter Tryz.func48, Tryz.ntmps48
    go_wp2_with fail
    all_goals go_ret3
    all_goals exact UnqIs.err rfl (Below.refl _ _)
  have h3 : 0 < s.length := by cases s <;> simp_all
  have hby := ba_at h3 (by rw [ba_size]; exact h3)
  have hd : s.drop 0 = s[0] :: s.drop (0 + 1) := List.drop_eq_getElem_cons h3
  have qn : ((0 : Int) == s.length) = false := by simp; omega
  by_cases h4 : s[0] = 34
  · have q4 : (((⟨s.toArray⟩ : ByteArray)[0]'(by rw [ba_size]; exact h3)).toNat : Int) = 34 := by rw [hby, h4]; rfl
    obtain ⟨R, hR⟩ : ∃ R, unquoteS s 0 = R := ⟨_, rfl⟩
    have hR0 : unqS [] (0 + 1) (s.drop (0 + 1)) = R := by
      rw [← hR]; unfold unquoteS; rw [if_neg (by omega), show (0 : Int).toNat = 0 from rfl, hd]; simp only; rw [if_neg (by simpa using h4)]
    rw [hR]
    replace hR0 := Lib.hid hR0
    clear hR hd h4 hby h2
    go_enter Tryz.func48, Tryz.ntmps48
    go_wp2_with fail
    go_loopg [1, 7] (s.length - 1) (fun gh i v wr => LqR s w R gh i v wr)
    case atStart => exact ⟨1, [], rfl, by go_num, by omega, by simp, hR0.out, World.ownsRow_nil _ _ _ _, Below.refl _ _⟩
    case round =>
      clear q4 hR0 h3 qn
      obtain ⟨k, out, rfl, rfl, hk, hol, hun, hown, hb⟩ := hrel
      have hsize := hb.size
      by_cases hlt : k < s.length
      · have hby := ba_at hlt (by rw [ba_size]; exact hlt)
        have hdk : s.drop k = s[k] :: s.drop (k + 1) := List.drop_eq_getElem_cons hlt
        rw [hdk] at hun
        by_cases c34 : s[k] = 34
        · have q4 : (((⟨s.toArray⟩ : ByteArray)[k]'(by rw [ba_size]; exact hlt)).toNat : Int) = 34 := by rw [hby, c34]; rfl
          rw [c34, unqS_end] at hun
          replace hun := Lib.hid hun
          clear hby hdk c34
          go_wp2_with fail
          all_goals go_ret3
          all_goals exact UnqIs.mk hun.out.symm hown hb
        · have q4 : ((((⟨s.toArray⟩ : ByteArray)[k]'(by rw [ba_size]; exact hlt)).toNat : Int) == 34) = false := by
            rw [hby]; simp only [beq_eq_false_iff_ne, ne_eq]; intro e; exact c34 (UInt8.toNat_inj.1 (by rw [show (34 : UInt8).toNat = 34 from rfl]; omega))
          by_cases c92 : s[k] = 92
          · have q5 : (((⟨s.toArray⟩ : ByteArray)[k]'(by rw [ba_size]; exact hlt)).toNat : Int) = 92 := by rw [hby, c92]; rfl
            rw [c92] at hun
            clear q4 hby hdk c34 c92
            have he := esc_any (s.drop (k + 1)) (by rw [List.length_drop]; omega)
            have hx : (⟨s.toArray⟩ : ByteArray).extract (k + 1) s.length = ⟨(s.drop (k + 1)).toArray⟩ := by rw [ext_list, List.take_of_length_le (by simp)]
            unfold strV at he
            rw [← hx] at he
            unfold escT at he
            cases hes : escS (s.drop (k + 1)) with
            | error x =>
              rw [hes] at he
              rw [unqS_err out k _ x hes] at hun
              have q6 : x ≠ 0 := by
                intro e; subst e
                have := escS_err hes
                omega
              have q7 : (x != 0) = true := by simpa using q6
              replace he := Lib.hid he
              replace hun := Lib.hid hun
              replace q6 := Lib.hid q6
              replace hx := Lib.hid hx
              replace hes := Lib.hid hes
              go_wp2_with (go_at_call 65; refine (he.out _).mono ?_; rintro e w2 ⟨rfl, rfl⟩)
              all_goals go_ret3
              all_goals exact UnqIs.err hun.out.symm hb
            | ok xn =>
              obtain ⟨x, n⟩ := xn
              rw [hes] at he
              rw [unqS_esc out k _ x n hes] at hun
              obtain ⟨hn1, hn2⟩ := escS_len hes
              rw [List.length_drop] at hn2
              rw [List.drop_drop] at hun
              replace he := Lib.hid he
              replace hun := Lib.hid hun
              replace hx := Lib.hid hx
              replace hes := Lib.hid hes
              go_wp2_with (first
                | (go_at_call 65; refine (he.out _).mono ?_; rintro e w2 ⟨rfl, rfl⟩)
                | (at_builtin; refine wpList_append_own _ rfl (.tmp 65) (.tmp 67) 23 rfl w.heap.size 5 i0 (.int .u8 0) 1 1 Tryz.underlying23 hi hz0 hz1 hz2 rfl (by decide) _ _ _ rfl (hown.alloc _) ⟨w2.heap.size, 0, none⟩ 1 1 [.int .u8 (x.toNat : Int)] rfl rfl (cell_one_new _ _ _) (by intro u hu; simp at hu; subst hu; rfl) (by unfold maxLen; omega) (by omega) (by simp; omega) ?_; intro v1 w1 hown1 hgrow1 hnil1))
              all_goals go_roundg (s.length - (k + 1 + n))
              case measure => omega
              case rel => exact lq_snoc (k := k) (k2 := k + 1 + n) rfl (by omega) (by omega) hol hun.out hown hown1 hb hgrow1
          · have q5 : ((((⟨s.toArray⟩ : ByteArray)[k]'(by rw [ba_size]; exact hlt)).toNat : Int) == 92) = false := by
              rw [hby]; simp only [beq_eq_false_iff_ne, ne_eq]; intro e; exact c92 (UInt8.toNat_inj.1 (by rw [show (92 : UInt8).toNat = 92 from rfl]; omega))
            rw [unqS_plain out k s[k] _ c34 c92] at hun
            replace hun := Lib.hid hun
            clear hdk c34 c92
            replace hby := Lib.hid hby
            go_wp2_with (at_builtin; refine wpList_append_own _ rfl (.tmp 44) (.tmp 46) 23 rfl w.heap.size 5 i0 (.int .u8 0) 1 1 Tryz.underlying23 hi hz0 hz1 hz2 rfl (by decide) _ _ _ rfl (hown.alloc _) ⟨wr.heap.size, 0, none⟩ 1 1 [.int .u8 (((⟨s.toArray⟩ : ByteArray)[k]'(by rw [ba_size]; exact hlt)).toNat : Int)] rfl rfl (cell_one_new _ _ _) (by intro u hu; simp at hu; subst hu; rfl) (by unfold maxLen; omega) (by omega) (by simp; omega) ?_; intro v1 w1 hown1 hgrow1 hnil1)
            all_goals go_roundg (s.length - (k + 1))
            case measure => omega
            case rel => exact lq_snoc (k := k) (k2 := k + 1) rfl (by omega) (by omega) hol hun.out hown (by rw [← hby.out]; exact hown1) hb hgrow1
      · obtain rfl : k = s.length := by omega
        rw [List.drop_length, unqS_nil] at hun
        replace hun := Lib.hid hun
        go_wp2_with fail
        all_goals go_ret3
        all_goals exact UnqIs.err hun.out.symm hb
  · have hR : unquoteS s 0 = ([], 0, 9) := by unfold unquoteS; rw [if_neg (by omega), show (0 : Int).toNat = 0 from rfl, hd]; simp only; rw [if_pos h4]
    rw [hR]
    have q4 : ((((⟨s.toArray⟩ : ByteArray)[0]'(by rw [ba_size]; exact h3)).toNat : Int) == 34) = false := by
      rw [hby]; simp only [beq_eq_false_iff_ne, ne_eq]; intro e; exact h4 (UInt8.toNat_inj.1 (by rw [show (34 : UInt8).toNat = 34 from rfl]; omega))
    have q5 : ((((⟨s.toArray⟩ : ByteArray)[0]'(by rw [ba_size]; exact h3)).toNat : Int) != 34) = true := by simp only [bne, q4]; rfl
    clear hR hd h4 hby h2
    go_enter Tryz.func48, Tryz.ntmps48
    go_wp2_with fail
    all_goals go_ret3
    all_goals exact UnqIs.err rfl (Below.refl _ _)
end Go.Proofs.YtcjcflmnghhbaaaGreat
