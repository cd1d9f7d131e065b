/-
  The walks of the laws OrderBack and OrderSound, of chapter 29.
  Conditions: the table of powers of ten lies as laid ('Pow').
-/
import Derived.Test.YtjfpepinmbbnbaaDoorOrdU
import Derived.Test.YtjfpepinmbbnbaaDoorOrd13
import Derived.Test.YtjfpepinmbbnbaaDoorReads
namespace Go.Proofs.YtjfpepinmbbnbaaDoor
open Go.RowKit
set_option linter.unusedVariables false
set_option linter.unusedSimpArgs false
theorem parse_step3 : OM.parse [115, 116, 101, 112, 32, 51] = (⟨1, 3, 0, []⟩, 0) := by
  have h : OM.wds 0 [115, 116, 101, 112, 32, 51] = [(0, [115, 116, 101, 112]), (5, [51])] := by
    rw [OM.wds_word _ _ _ (by decide)]
    show (0, [115, 116, 101, 112]) :: OM.wds 4 [32, 51] = _
    rw [OM.wds_blank, OM.wds_word _ _ _ (by decide)]
    show (0, [115, 116, 101, 112]) :: (5, [51]) :: OM.wds 6 [] = _
    rw [OM.wds_nil]
  unfold OM.parse
  rw [h]
  rfl
theorem parse_list0 : OM.parse [108, 105, 115, 116] = (⟨13, 0, 200, []⟩, 0) := by
  have h : OM.wds 0 [108, 105, 115, 116] = [(0, [108, 105, 115, 116])] := by
    rw [OM.wds_word _ _ _ (by decide)]
    show (0, [108, 105, 115, 116]) :: OM.wds 4 [] = _
    rw [OM.wds_nil]
  unfold OM.parse
  rw [h]
  rfl
set_option maxHeartbeats 2000000 in
set_option maxRecDepth 100000 in
theorem awake29 (w : World) : Calls Tryd.prog 22 #[] w fun e w' => e = .returned (.bool true) ∧ Below w.heap.size w w' := by
  have h1 := fun W => parse_go [115, 116, 101, 112, 32, 51] (by decide) W
  have h2 := fun W => parse_go [108, 105, 115, 116] (by decide) W
  rw [parse_step3] at h1
  rw [parse_list0] at h2
  replace h1 := Lib.hid h1
  replace h2 := Lib.hid h2
  go_enter Tryd.func22, Tryd.ntmps22
  go_wp2_with (go_at_call 25; first | ((with_reducible refine (h1.out _).mono ?_); rintro e w2 ⟨rfl, hb2⟩; have hB2 := Lib.hid hb2; clear hb2) | ((with_reducible refine (h2.out _).mono ?_); rintro e w3 ⟨rfl, hb3⟩; have gA := (Blk.new w2 41 [.int .i64 1, .int .i64 3, .int .i64 0, .string ⟨#[]⟩]).below hb3; have cA := cells4 gA; have lA := gA.lt; have hB3 := Lib.hid (bl_trans (bl_alloc (Below.refl _ _) _) hb3); clear hb3 gA))
  go_ret
  exact ⟨rfl, bl_alloc (bl_trans hB2.out hB3.out) _⟩
theorem two_blocks {w w2 w3 : World} {c1 : List Value} {t : TypeId} (h1 : Below w.heap.size w w2) (h2 : Below (w2.alloc (.cells c1.toArray t)).heap.size (w2.alloc (.cells c1.toArray t)) w3) : Blk w3 w2.heap.size t c1 ∧ Below w.heap.size w w3 :=
  ⟨(Blk.new w2 t c1).below h2, bl_trans (bl_alloc h1 _) h2⟩
/-- an order's numbers and text are small -/
theorem parse_small {L : List UInt8} {o : OM.Ord} (h : OM.parse L = (o, 0)) : I64 o.kind ∧ I64 o.n ∧ I64 o.m ∧ o.s.length ≤ 64 + L.length := by
  have hb := OM.parse_form h
  obtain ⟨h1, h2, h3, h4⟩ := hb
  exact ⟨⟨by omega, by omega⟩, ⟨by omega, by omega⟩, ⟨by omega, by omega⟩, h4⟩
set_option maxHeartbeats 2000000 in
set_option maxRecDepth 100000 in
theorem orderSound_list (k n m : Int) (s : List UInt8) (hk : I64 k) (hn : I64 n) (hm : I64 m) (hs : s.length ≤ 9223372036854775807) (w : World) (hp : Pow w) :
    Calls Tryd.prog 9 #[.agg #[.int .i64 k, .int .i64 n, .int .i64 m, strV s]] w fun e w' => e = .returned (.bool true) ∧ Below w.heap.size w w' := by
  have ha := Lib.hid (fun W => awake29 W)
  by_cases hl : 300 < s.length
  · have q1 : decide ((300 : Int) < s.length) = true := by rw [decide_eq_true_eq]; omega
    go_enter Tryd.func9, Tryd.ntmps9
    go_wp2_with (go_at_call 22; refine (ha.out _).mono ?_; rintro e w2 ⟨rfl, hb2⟩)
    go_ret
    exact ⟨rfl, bl_trans (bl_alloc (Below.refl _ _) _) hb2⟩
  · have q1 : decide ((300 : Int) < s.length) = false := by rw [decide_eq_false_iff_not]; omega
    have hs3 : s.length ≤ 300 := by omega
    have ht := Lib.hid (otext_any k n m s hk hn hm hs3 (w.alloc (.cells #[.int .i64 k, .int .i64 n, .int .i64 m, .string ⟨s.toArray⟩] 41)) (hp.below (bl_alloc (Below.refl _ _) _)))
    have hTl := textOf_len ⟨k, n, m, s⟩ hn hm hs3
    obtain ⟨T, hT⟩ : ∃ T, OM.textOf ⟨k, n, m, s⟩ = T := ⟨_, rfl⟩
    rw [hT] at hTl
    have h2 := fun W => rparse_any T (by omega) W
    have ht' := ht.out
    unfold TextIs at ht'
    rw [hT] at ht'
    clear ht
    by_cases hP : OM.parse T = (⟨k, n, m, s⟩, 0)
    · rw [hP] at h2
      replace h2 := Lib.hid h2
      have ht := Lib.hid (ht'.mono (fun e w' h => (⟨h.1, h.2.elim (fun h => h.2) (fun h => absurd hP h.1)⟩ : Below (w.alloc (.cells #[.int .i64 k, .int .i64 n, .int .i64 m, .string ⟨s.toArray⟩] 41)).heap.size (w.alloc (.cells #[.int .i64 k, .int .i64 n, .int .i64 m, .string ⟨s.toArray⟩] 41)) w' ∧ e = .returned (.tuple #[strV T, .bool true]))))
      clear ht' hP hT hk hn hm
      go_enter Tryd.func9, Tryd.ntmps9
      go_wp2_with (first
        | (go_at_call 24; refine ht.out.mono ?_; rintro e w2 ⟨hb2, rfl⟩; obtain ⟨gA, hb3⟩ := two_blocks (w2 := w) (c1 := [.int .i64 k, .int .i64 n, .int .i64 m, strV s]) (Below.refl _ _) hb2; have cA := cells4 gA; have lA := gA.lt; replace gA := Lib.hid gA; have hB2 := Lib.hid hb3; clear hb2 hb3)
        | (go_at_call 23; refine (h2.out _).mono ?_; rintro e w3 ⟨rfl, hb4⟩; have gA3 := gA.out.below hb4; have cA3 := cells4 gA3; have lA3 := gA3.lt; have hB3 := Lib.hid (bl_trans hB2.out hb4); clear hb4 gA3)
        | (go_at_call 22; refine (ha.out _).mono ?_; rintro e w4 ⟨rfl, hb5⟩))
      all_goals go_ret
      all_goals exact ⟨rfl, bl_trans (bl_alloc hB3.out _) hb5⟩
    · have ht := Lib.hid (ht'.mono (fun e w' h => (⟨h.1, h.2.elim (fun h => absurd h.1 hP) (fun h => h.2)⟩ : Below (w.alloc (.cells #[.int .i64 k, .int .i64 n, .int .i64 m, .string ⟨s.toArray⟩] 41)).heap.size (w.alloc (.cells #[.int .i64 k, .int .i64 n, .int .i64 m, .string ⟨s.toArray⟩] 41)) w' ∧ e = .returned (.tuple #[strV [], .bool false]))))
      clear ht' hP hT hk hn hm h2
      go_enter Tryd.func9, Tryd.ntmps9
      go_wp2_with (first
        | (go_at_call 24; refine ht.out.mono ?_; rintro e w2 ⟨hb2, rfl⟩; have hB2 := Lib.hid (bl_trans (bl_alloc (Below.refl _ _) _) hb2); clear hb2)
        | (go_at_call 22; refine (ha.out _).mono ?_; rintro e w4 ⟨rfl, hb5⟩))
      all_goals go_ret
      all_goals exact ⟨rfl, bl_trans hB2.out hb5⟩
set_option maxHeartbeats 4000000 in
set_option maxRecDepth 100000 in
theorem orderBack_list (L : List UInt8) (hL : L.length ≤ 9223372036854775807) (w : World) (hp : Pow w) :
    Calls Tryd.prog 8 #[strV L] w fun e w' => e = .returned (.bool true) ∧ Below w.heap.size w w' := by
  have ha := Lib.hid (fun W => awake29 W)
  by_cases hl : 300 < L.length
  · have q1 : decide ((300 : Int) < L.length) = true := by rw [decide_eq_true_eq]; omega
    go_enter Tryd.func8, Tryd.ntmps8
    go_wp2_with (go_at_call 22; refine (ha.out _).mono ?_; rintro e w2 ⟨rfl, hb2⟩)
    go_ret
    exact ⟨rfl, hb2⟩
  · have q1 : decide ((300 : Int) < L.length) = false := by rw [decide_eq_false_iff_not]; omega
    have h1 := fun W => rparse_any L (by omega) W
    obtain ⟨⟨⟨k, n, m, s⟩, c⟩, hP⟩ : ∃ P, OM.parse L = P := ⟨_, rfl⟩
    rw [hP] at h1
    replace h1 := Lib.hid h1
    by_cases hc : c = 0
    · subst hc
      obtain ⟨hk, hn, hm, hs⟩ := parse_small hP
      simp only at hk hn hm hs
      have hb := OM.text_back L _ hP
      have hs3 : s.length ≤ 300 := OM.parse_s_len hP (by omega)
      have hTl := textOf_len ⟨k, n, m, s⟩ hn hm hs3
      have ht' := fun (W : World) (hW : Below w.heap.size w W) => otext_any k n m s hk hn hm hs3 W (hp.below hW)
      obtain ⟨T, hT⟩ : ∃ T, OM.textOf ⟨k, n, m, s⟩ = T := ⟨_, rfl⟩
      rw [hT] at hTl hb
      have h2 := fun W => rparse_any T (by omega) W
      have h3 := fun W => parse_go T (by omega) W
      rw [hb] at h2 h3
      unfold TextIs at ht'
      rw [hT] at ht'
      have ht := Lib.hid (fun (W : World) (hW : Below w.heap.size w W) => (ht' W hW).mono (fun e w' h => (⟨h.1, h.2.elim (fun h => h.2) (fun h => absurd hb h.1)⟩ : Below W.heap.size W w' ∧ e = .returned (.tuple #[strV T, .bool true]))))
      replace h2 := Lib.hid h2
      replace h3 := Lib.hid h3
      clear ht' hb hT hP hk hn hm hs
      go_enter Tryd.func8, Tryd.ntmps8
      go_wp2_with (first
        | (go_at_call 23; (first
          | ((with_reducible refine (h1.out w).mono ?_); rintro e w2 ⟨rfl, hb2⟩; have hB2 := Lib.hid hb2; clear hb2)
          | ((with_reducible refine (h2.out w3).mono ?_); rintro e w4 ⟨rfl, hb5⟩; have gA4 := gA3.out.below hb5; have cA4 := cells4 gA4; have lA4 := gA4.lt; replace gA4 := Lib.hid gA4; have hB4 := Lib.hid (bl_trans hB3.out hb5); clear hb5)))
        | (go_at_call 24; refine (ht.out _ (bl_alloc hB2.out _)).mono ?_; rintro e w3 ⟨hb3, rfl⟩; obtain ⟨gA3, hb4⟩ := two_blocks (w2 := w2) (c1 := [.int .i64 k, .int .i64 n, .int .i64 m, strV s]) hB2.out hb3; have cA3 := cells4 gA3; have lA3 := gA3.lt; replace gA3 := Lib.hid gA3; have hB3 := Lib.hid hb4; clear hb3 hb4)
        | (go_at_call 25; refine (h3.out _).mono ?_; rintro e w5 ⟨rfl, hb6⟩; obtain ⟨gC, hb7⟩ := two_blocks (w2 := w4) (c1 := [.int .i64 k, .int .i64 n, .int .i64 m, strV s]) hB4.out hb6; have cC := cells4 gC; have lC := gC.lt; have gA5 := (gA4.out.alloc _).below hb6; have cA5 := cells4 gA5; have lA5 := gA5.lt; have hB5 := Lib.hid hb7; clear hb6 hb7 gC gA5)
        | (go_at_call 22; refine (ha.out _).mono ?_; rintro e w6 ⟨rfl, hb8⟩))
      all_goals go_ret
      all_goals exact ⟨rfl, bl_trans (bl_alloc hB5.out _) hb8⟩
    · have hcb : (c != 0) = true := by simpa using hc
      clear hc hP
      go_enter Tryd.func8, Tryd.ntmps8
      go_wp2_with (first
        | (go_at_call 23; refine (h1.out _).mono ?_; rintro e w2 ⟨rfl, hb2⟩; have hB2 := Lib.hid hb2; clear hb2)
        | (go_at_call 22; refine (ha.out _).mono ?_; rintro e w6 ⟨rfl, hb8⟩))
      all_goals go_ret
      all_goals exact ⟨rfl, bl_trans (bl_alloc hB2.out _) hb8⟩
theorem str_eta (s : ByteArray) : strV s.data.toList = .string s := by
  show Value.string ⟨s.data.toList.toArray⟩ = _
  congr 1
theorem orderBack_walk (w : World) (hp : Pow w) (s : ByteArray) (hs : s.size ≤ maxLen) : Calls Tryd.prog 8 #[.string s] w fun e w' => e = .returned (.bool true) ∧ Below w.heap.size w w' := by
  rw [← str_eta s]
  unfold maxLen at hs
  exact orderBack_list _ (by rw [size_list]; omega) w hp
theorem orderSound_walk (W : World) (hp : Pow W) (cs : Array Value) (x : Int × Int × Int × List UInt8 × Unit) (h : (rPair (rInt .i64) (rPair (rInt .i64) (rPair (rInt .i64) (rPair rStr rUnit)))).ok (Sub.all W) cs.toList x) :
    Calls Tryd.prog 9 #[.agg cs] W fun e w' => e = .returned (.bool true) ∧ Below W.heap.size W w' := by
  obtain ⟨id, k, n, bs, u⟩ := x
  obtain ⟨a1, r1, e1, ⟨q1, w1⟩, a2, r2, e2, ⟨q2, w2⟩, a3, r3, e3, ⟨q3, w3⟩, a4, r4, e4, ⟨cond, q4, _, hcm⟩, q6⟩ := h
  have hcs : cs = #[.int .i64 id, .int .i64 k, .int .i64 n, .string cond] := by
    apply Array.toList_inj.1
    rw [e1, q1, e2, q2, e3, q3, e4, q4, show r4 = [] from q6]
    rfl
  subst hcs
  have bd : ∀ m : Int, (Lit.int .i64 m).wf = true → I64 m := fun m wm => by
    simp [Lit.wf, IntKind.min, IntKind.max, IntKind.signed, IntKind.bits] at wm; unfold I64; omega
  rw [← str_eta cond]
  unfold maxLen at hcm
  exact orderSound_list id k n _ (bd _ w1) (bd _ w2) (bd _ w3) (by rw [size_list]; omega) W hp
end Go.Proofs.YtjfpepinmbbnbaaDoor
