/-
  The contract of the reference's Words, of chapter 29.
  Conditions: as each theorem states them.
-/
import Derived.Test.YtjfpepinmbbnbaaDoorOrdB
import Derived.Test.YtjfpepinmbbnbaaDoorOrd9
namespace Go.Proofs.YtjfpepinmbbnbaaDoor
open Go.RowKit
set_option linter.unusedVariables false
set_option linter.unusedSimpArgs false
/-- the words, one byte after the other -/
def wgo (w : List UInt8) : List UInt8 → List (List UInt8)
  | [] => if w = [] then [] else [w]
  | c :: r => if c = 32 then (if w = [] then wgo [] r else w :: wgo [] r) else wgo (w ++ [c]) r
theorem wgo_word : ∀ (l w : List UInt8), w ≠ [] → wgo w l = (w ++ l.takeWhile OM.nb) :: wgo [] (l.dropWhile OM.nb) := by
  intro l
  induction l with
  | nil => intro w hw; simp [wgo, hw]
  | cons c r ih =>
    intro w hw
    by_cases hc : c = 32
    · subst hc
      have hb : OM.nb 32 = false := by decide
      rw [List.takeWhile_cons, List.dropWhile_cons, hb]
      simp [wgo, hw]
    · have hb : OM.nb c = true := by simp [OM.nb, hc]
      rw [List.takeWhile_cons, List.dropWhile_cons, hb]
      simp only [if_true]
      rw [wgo, if_neg hc, ih _ (by simp)]
      simp
theorem wgo_wds : ∀ (n : Nat) (l : List UInt8) (p : Nat), l.length ≤ n → wgo [] l = (OM.wds p l).map (·.2) := by
  intro n
  induction n with
  | zero => intro l p h; obtain rfl : l = [] := List.length_eq_zero_iff.1 (by omega); rw [OM.wds_nil]; rfl
  | succ n ih =>
    intro l p h
    cases l with
    | nil => rw [OM.wds_nil]; rfl
    | cons c r =>
      simp only [List.length_cons] at h
      by_cases hc : c = 32
      · subst hc; rw [OM.wds_blank, ← ih r _ (by omega)]; simp [wgo]
      · have hd := (List.dropWhile_sublist OM.nb (l := r)).length_le
        rw [OM.wds_word _ _ _ hc, List.map_cons, ← ih (r.dropWhile OM.nb) _ (by omega), wgo, if_neg hc, List.nil_append, wgo_word r [c] (by simp)]
        rfl
theorem wgo_W (L : List UInt8) : wgo [] L = OM.W L := wgo_wds L.length L 0 (Nat.le_refl _)
theorem W_len (L : List UInt8) : (OM.W L).length ≤ L.length := by unfold OM.W; rw [List.length_map]; exact wds_len L.length L 0 (Nat.le_refl _)
theorem str_snoc {L : List UInt8} {k : Nat} (pw : List UInt8) (hk : k < L.length) : (⟨pw.toArray⟩ : ByteArray) ++ (⟨L.toArray⟩ : ByteArray).extract k (k + 1) = ⟨(pw ++ [L[k]]).toArray⟩ := by
  rw [ext_list]
  have : (L.drop k).take (k + 1 - k) = [L[k]] := by rw [List.drop_eq_getElem_cons hk, show k + 1 - k = 1 by omega]; rfl
  rw [this]
  apply ByteArray.ext
  simp [ByteArray.data_append]
/-- what Words answers -/
def WordsIs (l : List (List UInt8)) (w : World) (e : Ending) (w' : World) : Prop := ∃ a c, e = .returned (.slice a l.length c) ∧ l.length ≤ c ∧ (l ≠ [] → ∃ g, a = some ⟨g, 0, none⟩) ∧ StrAt (fun _ => True) w' a l ∧ Below w.heap.size w w'
theorem words_is {l : List (List UInt8)} {w w' : World} {v : Value} (h : w'.ownsRow w.heap.size 9 1 v l.length (l.map strV)) (hb : Below w.heap.size w w') : WordsIs l w (.returned v) w' := by
  by_cases hl : l = []
  · subst hl
    obtain ⟨a, c, rfl⟩ := own_form h
    exact ⟨a, c, rfl, by simp, fun h => absurd rfl h, StrAt.nil _ _ _, hb⟩
  · have h0 : 0 < l.length := by cases l with | nil => exact absurd rfl hl | cons x r => simp
    obtain ⟨g, c, rfl, hg, hgl⟩ := h.form h0
    have hc : l.length ≤ c := by
      rcases h.2 with ⟨e, _⟩ | ⟨g', c', cur, e, _, _, hc, _⟩
      · simp at e
      · simp only [Value.slice.injEq] at e; omega
    refine ⟨_, c, rfl, hc, fun _ => ⟨g, rfl⟩, fun _ => ⟨g, 0, rfl, trivial, hgl, fun i hi => ?_⟩, hb⟩
    rw [Nat.zero_add, h.cellAt i (by omega)]
    simp [hi]
set_option maxHeartbeats 2000000 in
set_option maxRecDepth 100000 in
theorem rwords_any (L : List UInt8) (hL : L.length ≤ 100000) (w : World) :
    Calls Tryd.prog 51 #[strV L] w (WordsIs (OM.W L) w) := by
  obtain ⟨i0, hi, hz0, hz1, hz2⟩ := info_parts infoS_
  go_enter Tryd.func51, Tryd.ntmps51
  go_wp2_with fail
  go_loopg [3, 4, 5] (L.length + 1) (fun gh v s i wr => ∃ (k : Nat) (out : List (List UInt8)) (pw : List UInt8), gh = L.length + 1 - k ∧ i = .int .i64 (k : Int) ∧ k ≤ L.length + 1 ∧ s = strV pw ∧ pw.length ≤ k ∧ out.length ≤ k ∧ (k = L.length + 1 → pw = []) ∧ out ++ wgo pw (L.drop k) = OM.W L ∧ wr.ownsRow w.heap.size 9 1 v out.length (out.map strV) ∧ Below w.heap.size w wr)
  case atStart => exact ⟨0, [], [], rfl, rfl, by omega, rfl, by simp, by simp, by simp, by simpa using wgo_W L, World.ownsRow_nil _ _ _ _, Below.refl _ _⟩
  case round =>
    obtain ⟨k, out, pw, rfl, rfl, hk, rfl, hpl, hol, hend, hwg, hown, hnx⟩ := hrel
    have hsize := hnx.size
    by_cases hlt : k ≤ L.length
    · by_cases hlt2 : k < L.length
      · have hby := ba_at hlt2 (by rw [ba_size]; exact hlt2)
        have hdr : L.drop k = L[k] :: L.drop (k + 1) := List.drop_eq_getElem_cons hlt2
        rw [hdr] at hwg
        have hsn := str_snoc pw hlt2
        by_cases hc : L[k] = 32
        · have q1 : (((⟨L.toArray⟩ : ByteArray)[k]'(by rw [ba_size]; exact hlt2)).toNat : Int) = 32 := by rw [hby, hc]; rfl
          rw [hc, wgo, if_pos rfl] at hwg
          cases pw with
          | nil =>
            have hwg' : Hid (out ++ wgo [] (L.drop (k + 1)) = OM.W L) := Lib.hid (by simpa using hwg)
            clear hwg hdr hsn hby hc hend
            go_wp2_with fail
            all_goals go_roundg (L.length + 1 - (k + 1))
            case measure => omega
            case rel => exact ⟨k + 1, out, [], rfl, by go_num, by omega, rfl, by simp, by omega, fun _ => rfl, hwg'.out, hown, hnx⟩
          | cons p0 pr =>
            have hwg' : Hid ((out ++ [p0 :: pr]) ++ wgo [] (L.drop (k + 1)) = OM.W L) := Lib.hid (by simpa using hwg)
            obtain ⟨pw, hpw⟩ : ∃ pw, p0 :: pr = pw := ⟨_, rfl⟩
            have hne : (pw == []) = false := by subst hpw; rfl
            have hne2 : (pw != []) = true := by subst hpw; rfl
            rw [hpw] at hwg' ⊢
            rw [hpw] at hpl
            clear hwg hdr hsn hby hc hend hpw
            go_wp2_with (at_builtin; refine wpList_append_own _ rfl (.tmp 31) (.tmp 33) 68 rfl w.heap.size 9 i0 (.string ⟨#[]⟩) 1 16 Tryd.underlying68 hi hz0 hz1 hz2 rfl (by decide) _ _ _ rfl (hown.alloc _) ⟨wr.heap.size, 0, none⟩ 1 1 [strV pw] rfl rfl (cell_one_new _ _ _) (by intro u hu; simp at hu; subst hu; rfl) (by unfold maxLen; omega) (by omega) (by simp; omega) ?_; intro v1 w1 hown1 hgrow1 hnil1)
            all_goals go_roundg (L.length + 1 - (k + 1))
            case measure => omega
            case rel => exact ⟨k + 1, out ++ [pw], [], rfl, by go_num, by omega, rfl, by simp, by simp; omega, fun _ => rfl, hwg'.out, by rw [List.length_append, List.map_append]; exact hown1, (hnx.alloc (by omega) _).grown hgrow1 (by simp; omega) (fun j hj => (hown.lt j hj).1)⟩
        · have q1 : ((((⟨L.toArray⟩ : ByteArray)[k]'(by rw [ba_size]; exact hlt2)).toNat : Int) == 32) = false := by
            rw [hby]; simp only [beq_eq_false_iff_ne, ne_eq]; intro e; exact hc (UInt8.toNat_inj.1 (by rw [show (32 : UInt8).toNat = 32 from rfl]; omega))
          rw [wgo, if_neg hc] at hwg
          replace hwg := Lib.hid hwg
          replace hsn := Lib.hid hsn
          clear hdr hby hc hend
          go_wp2_with fail
          all_goals go_roundg (L.length + 1 - (k + 1))
          case measure => omega
          case rel => exact ⟨k + 1, out, pw ++ [L[k]], rfl, by go_num, by omega, by first | rfl | exact congrArg Value.string hsn.out, by simp; omega, by omega, fun h => by omega, hwg.out, hown, hnx⟩
      · obtain rfl : k = L.length := by omega
        rw [List.drop_length, wgo] at hwg
        cases pw with
        | nil =>
          have hwg' : Hid (out ++ wgo [] (L.drop (L.length + 1)) = OM.W L) := Lib.hid (by rw [List.drop_eq_nil_of_le (by omega)]; simpa [wgo] using hwg)
          clear hwg hend
          go_wp2_with fail
          all_goals go_roundg (L.length + 1 - (L.length + 1))
          case measure => omega
          case rel => exact ⟨L.length + 1, out, [], by omega, by go_num, by omega, rfl, by simp, by omega, fun _ => rfl, hwg'.out, hown, hnx⟩
        | cons p0 pr =>
          have hwg' : Hid ((out ++ [p0 :: pr]) ++ wgo [] (L.drop (L.length + 1)) = OM.W L) := Lib.hid (by rw [List.drop_eq_nil_of_le (by omega)]; simpa [wgo] using hwg)
          obtain ⟨pw, hpw⟩ : ∃ pw, p0 :: pr = pw := ⟨_, rfl⟩
          have hne : (pw == []) = false := by subst hpw; rfl
          have hne2 : (pw != []) = true := by subst hpw; rfl
          rw [hpw] at hwg' ⊢
          rw [hpw] at hpl
          obtain ⟨k, hkL⟩ : ∃ k, L.length = k := ⟨_, rfl⟩
          clear hwg hend hpw
          go_wp2_with (at_builtin; refine wpList_append_own _ rfl (.tmp 31) (.tmp 33) 68 rfl w.heap.size 9 i0 (.string ⟨#[]⟩) 1 16 Tryd.underlying68 hi hz0 hz1 hz2 rfl (by decide) _ _ _ rfl (hown.alloc _) ⟨wr.heap.size, 0, none⟩ 1 1 [strV pw] rfl rfl (cell_one_new _ _ _) (by intro u hu; simp at hu; subst hu; rfl) (by unfold maxLen; omega) (by omega) (by simp; omega) ?_; intro v1 w1 hown1 hgrow1 hnil1)
          all_goals go_roundg (L.length + 1 - (L.length + 1))
          case measure => omega
          case rel => exact ⟨L.length + 1, out ++ [pw], [], by omega, by go_num, by omega, rfl, by simp, by simp; omega, fun _ => rfl, hwg'.out, by rw [List.length_append, List.map_append]; exact hown1, (hnx.alloc (by omega) _).grown hgrow1 (by simp; omega) (fun j hj => (hown.lt j hj).1)⟩
    · obtain rfl : k = L.length + 1 := by omega
      have hp0 := hend rfl
      subst hp0
      rw [List.drop_eq_nil_of_le (by omega)] at hwg
      have hout : out = OM.W L := by simpa [wgo] using hwg
      subst hout
      clear hwg hend
      go_wp2_with fail
      all_goals go_ret
      all_goals exact words_is hown hnx
end Go.Proofs.YtjfpepinmbbnbaaDoor
