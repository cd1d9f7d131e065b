/-
  Bytes turned into a string, and back; of chapter 27.
  Conditions: as each theorem states them.
-/
import Derived.Test.YtcjcflmnghhbaaaGreatUnqP
import Derived.Laws.IdiomStrings
namespace Go.Proofs.YtcjcflmnghhbaaaGreat
open Go.RowKit
set_option linter.unusedVariables false
set_option linter.unusedSimpArgs false
theorem own_slice {w : World} {base e k n : Nat} {v : Value} {xs : List Value} (h : w.ownsRow base e k v n xs) : ∃ a c, v = .slice a n c := by
  rcases h.2 with ⟨rfl, rfl⟩ | ⟨g, cap, cur, rfl, _⟩
  · exact ⟨none, 0, rfl⟩
  · exact ⟨_, cap, rfl⟩
theorem byteCells_cells {w : World} {base e : Nat} {v : Value} {l : List UInt8} (h : w.ownsRow base e 1 v l.length (Lib.byteCells l)) : (v = .slice none 0 0 ∧ l = []) ∨ ∃ gq cap, v = .slice (some ⟨gq, 0, none⟩) l.length cap ∧ ∀ j u, (Lib.byteCells l)[j]? = some u → w.cell? ((⟨gq, 0, none⟩ : Addr).add j) = some u := by
  have h' := h
  obtain ⟨h1, h2⟩ := h
  rcases h2 with ⟨rfl, h0⟩ | ⟨gq, cap, cur, rfl, hb, hh, _, _, _, hx⟩
  · exact .inl ⟨rfl, List.eq_nil_of_length_eq_zero h0⟩
  · refine .inr ⟨gq, cap, rfl, fun j u hj => ?_⟩
    have e1 : (⟨gq, 0, none⟩ : Addr).add j = ⟨gq, j, none⟩ := by unfold Addr.add; by_cases h0 : j = 0 <;> simp [h0]
    rw [e1]
    have hB : Blk w gq e cur.toList := by simpa [Blk] using hh
    rw [hB.cell]
    rw [← hx] at hj
    rw [List.getElem?_take] at hj
    split at hj
    · simpa using hj
    · cases hj
/-- '[]byte(s)' -/
theorem conv_bytes {P : Program} (w : World) (src dst e : TypeId) (xs : List UInt8) (hs : P.underlying src = some .string) (hd : P.underlying dst = some (.slice e)) (he : P.underlying e = some (.int .u8)) :
    ∃ c w', (convert src dst (strV xs)).run P w = .ok (.slice (some ⟨w.heap.size, 0, none⟩) xs.length c) w' ∧ Below w.heap.size w w' ∧ ByteRow w' w.heap.size 0 xs ∧ w.heap.size < w'.heap.size := by
  have h := run_bytes_of_string (P := P) w src dst e ⟨xs.toArray⟩ hs hd he
  rw [show (⟨xs.toArray⟩ : ByteArray).size = xs.length from ba_size xs] at h
  refine ⟨_, _, h, bl_alloc (bl_drew (Below.refl _ _)) _, fun i hi => ?_, by simp⟩
  rw [Nat.zero_add]
  have hsz : i < (⟨xs.toArray⟩ : ByteArray).data.size := by simpa using hi
  exact (World.cell?_alloc_mark w.drew _ _ _ i).trans ((bytesRow_at _ _ _ hsz).trans (by simp))
/-- a line as a string -/
theorem conv_line {w : World} {base : Nat} {v : Value} {l : List UInt8} (h : w.ownsRow base 5 1 v l.length (Lib.byteCells l)) : (convert 23 9 v).run Tryz.prog w = .ok (strV l) w := by
  rcases byteCells_cells h with ⟨rfl, rfl⟩ | ⟨g, cap, rfl, hc⟩
  · exact run_convert_bytes_nil w 23 5 Tryz.underlying23 Tryz.underlying5 0 0 9 Tryz.underlying9
  · exact run_convert_bytes_back w 23 9 5 ⟨g, 0, none⟩ cap l Tryz.underlying23 Tryz.underlying5 Tryz.underlying9 (fun j hj => hc j _ (by simp [Lib.byteCells, hj]))
/-- '[]byte(s)', with its room -/
theorem conv_room {P : Program} (w : World) (src dst e : TypeId) (xs : List UInt8) (hs : P.underlying src = some .string) (hd : P.underlying dst = some (.slice e)) (he : P.underlying e = some (.int .u8)) :
    ∃ c w', (convert src dst (strV xs)).run P w = .ok (.slice (some ⟨w.heap.size, 0, none⟩) xs.length c) w' ∧ Below w.heap.size w w' ∧ ByteRow w' w.heap.size 0 xs ∧ w.heap.size < w'.heap.size ∧ xs.length ≤ c := by
  have h := run_bytes_of_string (P := P) w src dst e ⟨xs.toArray⟩ hs hd he
  rw [show (⟨xs.toArray⟩ : ByteArray).size = xs.length from ba_size xs] at h
  refine ⟨_, _, h, bl_alloc (bl_drew (Below.refl _ _)) _, fun i hi => ?_, by simp, grownCap_ge _ _ _ _⟩
  rw [Nat.zero_add]
  have hsz : i < (⟨xs.toArray⟩ : ByteArray).data.size := by simpa using hi
  exact (World.cell?_alloc_mark w.drew _ _ _ i).trans ((bytesRow_at _ _ _ hsz).trans (by simp))
end Go.Proofs.YtcjcflmnghhbaaaGreat
/-
  show.Unquote of the program at any place of a text where a quote begins; of chapter 04.
  Conditions: as each theorem states them.
-/
namespace Go.Proofs.YtcjcflmnghhbaaaGreat
open Go.RowKit
set_option linter.unusedVariables false
set_option linter.unusedSimpArgs false
set_option maxHeartbeats 4000000 in
set_option maxRecDepth 100000 in
theorem unquote_at (s : List UInt8) (hl : s.length ≤ 100000) (a : Nat) (h3 : a < s.length) (h4 : s[a] = 34) (w : World) :
    Calls Tryz.prog 48 #[strV s, .int .i64 a] w (UnqIs (unquoteS s a) w) := by
  obtain ⟨i0, hi, hz0, hz1, hz2⟩ := info_parts infoByteB
  have hby := ba_at h3 (by rw [ba_size]; exact h3)
  have hd : s.drop a = s[a] :: s.drop (a + 1) := List.drop_eq_getElem_cons h3
  have qn : ((a : Int) == s.length) = false := by simp; omega
  have qm : decide ((a : Int) < 0) = false := by simp
  have qo : decide (s.length < a) = false := by rw [decide_eq_false_iff_not]; omega
  have q4 : (((⟨s.toArray⟩ : ByteArray)[a]'(by rw [ba_size]; exact h3)).toNat : Int) = 34 := by rw [hby, h4]; rfl
  obtain ⟨R, hR⟩ : ∃ R, unquoteS s a = R := ⟨_, rfl⟩
  have hR0 : unqS [] (a + 1) (s.drop (a + 1)) = R := by
    rw [← hR]; unfold unquoteS; rw [if_neg (by omega), Int.toNat_natCast, hd]; simp only; rw [if_neg (by simpa using h4)]
  rw [hR]
  replace hR0 := Lib.hid hR0
  clear hR hd h4 hby
  go_enter Tryz.func48, Tryz.ntmps48
  go_wp2_with fail
  go_loopg [1, 7] (s.length - (a + 1)) (fun gh i v wr => LqR s w R gh i v wr)
  case atStart => exact ⟨a + 1, [], rfl, by go_num, by omega, by simp, hR0.out, World.ownsRow_nil _ _ _ _, Below.refl _ _⟩
  case round =>
    clear q4 hR0 qn qm qo h3
    obtain ⟨k, out, rfl, rfl, hk, hol, hun, hown, hb⟩ := hrel
    have hsize := hb.size
    by_cases hlt : k < s.length
    · have hby := ba_at hlt (by rw [ba_size]; exact hlt)
      have hdk : s.drop k = s[k] :: s.drop (k + 1) := List.drop_eq_getElem_cons hlt
      rw [hdk] at hun
      by_cases c34 : s[k] = 34
      · have q4 : (((⟨s.toArray⟩ : ByteArray)[k]'(by rw [ba_size]; exact hlt)).toNat : Int) = 34 := by rw [hby, c34]; rfl
        rw [c34, unqS_end] at hun
        replace hun := Lib.hid hun
        clear hby hdk c34
        go_wp2_with fail
        all_goals go_ret3
        all_goals exact UnqIs.mk hun.out.symm hown hb
      · have q4 : ((((⟨s.toArray⟩ : ByteArray)[k]'(by rw [ba_size]; exact hlt)).toNat : Int) == 34) = false := by
          rw [hby]; simp only [beq_eq_false_iff_ne, ne_eq]; intro e; exact c34 (UInt8.toNat_inj.1 (by rw [show (34 : UInt8).toNat = 34 from rfl]; omega))
        by_cases c92 : s[k] = 92
        · have q5 : (((⟨s.toArray⟩ : ByteArray)[k]'(by rw [ba_size]; exact hlt)).toNat : Int) = 92 := by rw [hby, c92]; rfl
          rw [c92] at hun
          clear q4 hby hdk c34 c92
          have he := esc_any (s.drop (k + 1)) (by rw [List.length_drop]; omega)
          have hx : (⟨s.toArray⟩ : ByteArray).extract (k + 1) s.length = ⟨(s.drop (k + 1)).toArray⟩ := by rw [ext_list, List.take_of_length_le (by simp)]
          unfold strV at he
          rw [← hx] at he
          unfold escT at he
          cases hes : escS (s.drop (k + 1)) with
          | error x =>
            rw [hes] at he
            rw [unqS_err out k _ x hes] at hun
            have q6 : x ≠ 0 := by
              intro e; subst e
              have := escS_err hes
              omega
            have q7 : (x != 0) = true := by simpa using q6
            replace he := Lib.hid he
            replace hun := Lib.hid hun
            replace q6 := Lib.hid q6
            replace hx := Lib.hid hx
            replace hes := Lib.hid hes
            go_wp2_with (go_at_call 65; refine (he.out _).mono ?_; rintro e w2 ⟨rfl, rfl⟩)
            all_goals go_ret3
            all_goals exact UnqIs.err hun.out.symm hb
          | ok xn =>
            obtain ⟨x, n⟩ := xn
            rw [hes] at he
            rw [unqS_esc out k _ x n hes] at hun
            obtain ⟨hn1, hn2⟩ := escS_len hes
            rw [List.length_drop] at hn2
            rw [List.drop_drop] at hun
            replace he := Lib.hid he
            replace hun := Lib.hid hun
            replace hx := Lib.hid hx
            replace hes := Lib.hid hes
            go_wp2_with (first
              | (go_at_call 65; refine (he.out _).mono ?_; rintro e w2 ⟨rfl, rfl⟩)
              | (at_builtin; refine wpList_append_own _ rfl (.tmp 65) (.tmp 67) 23 rfl w.heap.size 5 i0 (.int .u8 0) 1 1 Tryz.underlying23 hi hz0 hz1 hz2 rfl (by decide) _ _ _ rfl (hown.alloc _) ⟨w2.heap.size, 0, none⟩ 1 1 [.int .u8 (x.toNat : Int)] rfl rfl (cell_one_new _ _ _) (by intro u hu; simp at hu; subst hu; rfl) (by unfold maxLen; omega) (by omega) (by simp; omega) ?_; intro v1 w1 hown1 hgrow1 hnil1))
            all_goals go_roundg (s.length - (k + 1 + n))
            case measure => omega
            case rel => exact lq_snoc (k := k) (k2 := k + 1 + n) rfl (by omega) (by omega) hol hun.out hown hown1 hb hgrow1
        · have q5 : ((((⟨s.toArray⟩ : ByteArray)[k]'(by rw [ba_size]; exact hlt)).toNat : Int) == 92) = false := by
            rw [hby]; simp only [beq_eq_false_iff_ne, ne_eq]; intro e; exact c92 (UInt8.toNat_inj.1 (by rw [show (92 : UInt8).toNat = 92 from rfl]; omega))
          rw [unqS_plain out k s[k] _ c34 c92] at hun
          replace hun := Lib.hid hun
          clear hdk c34 c92
          replace hby := Lib.hid hby
          go_wp2_with (at_builtin; refine wpList_append_own _ rfl (.tmp 44) (.tmp 46) 23 rfl w.heap.size 5 i0 (.int .u8 0) 1 1 Tryz.underlying23 hi hz0 hz1 hz2 rfl (by decide) _ _ _ rfl (hown.alloc _) ⟨wr.heap.size, 0, none⟩ 1 1 [.int .u8 (((⟨s.toArray⟩ : ByteArray)[k]'(by rw [ba_size]; exact hlt)).toNat : Int)] rfl rfl (cell_one_new _ _ _) (by intro u hu; simp at hu; subst hu; rfl) (by unfold maxLen; omega) (by omega) (by simp; omega) ?_; intro v1 w1 hown1 hgrow1 hnil1)
          all_goals go_roundg (s.length - (k + 1))
          case measure => omega
          case rel => exact lq_snoc (k := k) (k2 := k + 1) rfl (by omega) (by omega) hol hun.out hown (by rw [← hby.out]; exact hown1) hb hgrow1
    · obtain rfl : k = s.length := by omega
      rw [List.drop_length, unqS_nil] at hun
      replace hun := Lib.hid hun
      go_wp2_with fail
      all_goals go_ret3
      all_goals exact UnqIs.err hun.out.symm hb
end Go.Proofs.YtcjcflmnghhbaaaGreat
