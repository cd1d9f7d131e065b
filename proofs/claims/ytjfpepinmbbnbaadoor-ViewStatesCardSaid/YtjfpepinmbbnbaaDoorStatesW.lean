/-
  The walk of the law ViewStates, of chapter 30.
  Conditions: the table of powers of ten lies as laid ('Pow').
-/
import Derived.Test.YtjfpepinmbbnbaaDoorStates
import Derived.Deep.DeepMust
namespace Go.Proofs.YtjfpepinmbbnbaaDoor
open Go.RowKit
set_option linter.unusedVariables false
set_option linter.unusedSimpArgs false
attribute [local go_sem ↓] load_st
/-- the words that are asked -/
def wordsL (what : ByteArray) : List ByteArray := [what, ⟨#[112, 97, 116, 116, 101, 114, 110]⟩, ⟨#[104, 111, 108, 100]⟩, ⟨#[114, 101, 115, 116]⟩, ⟨#[111, 117, 116]⟩, ⟨#[112, 108, 97, 99, 101]⟩, ⟨#[114, 101, 103, 115]⟩, ⟨#[119, 97, 105, 116, 115]⟩, ⟨#[102, 105, 108, 101, 115]⟩]
theorem words_new (w : World) (e : TypeId) (what : ByteArray) : ∀ j (h : j < 9), (w.alloc (.cells ((wordsL what).map Value.string).toArray e)).cell? ⟨w.heap.size, j, none⟩ = some (.string ((wordsL what)[j]'h)) := fun j h => by
  refine ((Blk.new w e ((wordsL what).map Value.string)).cell j).trans ?_
  rw [List.getElem?_map, List.getElem?_eq_getElem (show j < (wordsL what).length from h)]
  rfl
theorem showS_len {w : World} {s : StC} {b : StB} (h : StAt w s b) (what : ByteArray) : ((showS s b what).getD []).length ≤ 1000000 := by
  have h1 := h.waitsL
  have h2 := h.filesL
  unfold showS
  repeat' split
  all_goals simp
  all_goals omega
set_option maxHeartbeats 4000000 in
set_option maxRecDepth 100000 in
theorem states_main (s : StC) (b : StB) (n : Int) (hn : I64 n) (what : ByteArray) (hw : what.size ≤ 300) (w : World) (hp : Pow w) (hraw : RawAt w s b) (hg : greatB s b = false) :
    Calls Tryd.prog 12 #[.agg s.cells.toArray, .int .i64 n, .string what] w fun e w' => e = .returned (.bool true) ∧ Below w.heap.size w w' := by
  have hst := hraw.small hg
  obtain ⟨i0, hi, hz0, hz1, hz2⟩ := info_parts info9_
  have hz := (Blk.new w 66 s.cells)
  have hb1 : Below w.heap.size w (w.alloc (.cells s.cells.toArray 66)) := bl_alloc (Below.refl _ _) _
  obtain ⟨W1, hW1⟩ : ∃ W1, w.alloc (.cells s.cells.toArray 66) = W1 := ⟨_, rfl⟩
  rw [hW1] at hz hb1
  have hlt := hz.lt
  have up : ∀ w', Below W1.heap.size W1 w' → Below w.heap.size w w' := fun w' h => bl_trans hb1 h
  have hblk : ∀ w', Below W1.heap.size W1 w' → w'.heap[w.heap.size]? = some (.cells s.cells.toArray 66 (0, 0)) := fun w' h => (hz.below h)
  have hsw : s.W := ⟨hst.line, hst.pc, hst.phase, hst.exit, hst.stop, hst.err⟩
  have f1 := Lib.hid (fun w' (h : Below W1.heap.size W1 w') => hg ▸ great_any s b w' (hraw.below (up w' h)))
  have f2 := Lib.hid (fun w' (h : Below W1.heap.size W1 w') => (where_any n hn s hsw w' (hp.below (up w' h))).mono (R' := fun e w2 => e = .returned (.string (rowS (whAll n s))) ∧ Below W1.heap.size W1 w2) (fun e w2 he => ⟨he.1, bl_trans h he.2⟩))
  have f3 := Lib.hid (fun w' (h : Below W1.heap.size W1 w') => (rwhere_any n hn s hsw w').mono (R' := fun e w2 => e = .returned (.string (rowS (whAll n s))) ∧ Below W1.heap.size W1 w2) (fun e w2 he => ⟨he.1, bl_trans h he.2⟩))
  have f4 := Lib.hid (fun w' (h : Below W1.heap.size W1 w') => awake30 w' (hp.below (up w' h)))
  have f5 := Lib.hid (fun t w' (h : Below W1.heap.size W1 w') => show_any s b t w' (hp.below (up w' h)) (hst.below (up w' h)))
  have f6 := Lib.hid (fun t w' (h : Below W1.heap.size W1 w') => rshow_any s b t w' (hst.below (up w' h)))
  have f7 := Lib.hid (fun t w' (h : Below W1.heap.size W1 w') => file_any s b t w' (hst.below (up w' h)))
  have f8 := Lib.hid (fun t w' (h : Below W1.heap.size W1 w') => rfile_any s b t w' (hst.below (up w' h)))
  have hsl := Lib.hid (fun t => showS_len hst t)
  have hfl := hst.filesL
  have hcell : ∀ (W : World), Below W1.heap.size W1 W → W.cell? ⟨w.heap.size, 25, none⟩ = some (.slice s.files.a s.files.n s.files.c) := fun W hW => (hz.below hW).cell 25
  rw [hst.filesN] at hcell
  have hfa := Lib.hid (fun (w' : World) (h : Below W1.heap.size W1 w') => hst.filesAt.below (up w' h))
  replace hcell := Lib.hid hcell
  replace up := Lib.hid up
  have hld := Lib.hid (fun w' (h : Below W1.heap.size W1 w') => stLoad_is s (hblk w' h))
  clear hblk
  have hns : (what.size : Int) ≤ 300 := by omega
  clear hz hw hsw
  generalize rowS (whAll n s) = RW at *
  generalize hcs : s.cells.toArray = cs at *
  replace hcs := Lib.hid hcs
  have qw : (RW.toList == RW.toList) = true := by simp
  go_enter Tryd.func12, Tryd.ntmps12
  have hB := Below.refl W1.heap.size W1
  have hI := hld.out _ hB
  go_wp2_with (go_at_call 31; refine (f1.out _ hB).mono ?_; rintro e w2 ⟨rfl, hB2⟩; replace hB := bl_trans hB hB2; clear hB2 hI; have hI := hld.out _ hB)
  have sB : Below W1.heap.size W1 w2.drew := bl_drew hB
  clear hI
  have sI := And.intro sB (hld.out _ sB)
  go_region_held3 (fun w' => Below W1.heap.size W1 w' ∧ (stLoad ⟨w.heap.size, 0, none⟩).run Tryd.prog w' = .ok (.agg cs) w') (first | with_reducible exact hI | with_reducible exact sI)
    (first
    | (go_at_call 35; (with_reducible refine (f2.out _ sB).mono ?_); rintro e w3 ⟨rfl, hB3⟩; have hI := And.intro hB3 (hld.out _ hB3))
    | (go_at_call 36; (with_reducible refine (f3.out _ hB3).mono ?_); rintro e w4 ⟨rfl, hB3⟩; have hI := And.intro hB3 (hld.out _ hB3)))
  go_wp2_with fail
  obtain ⟨W2, hW2⟩ : ∃ W2, w4.alloc (.cells #[.string what, .string ⟨#[112, 97, 116, 116, 101, 114, 110]⟩, .string ⟨#[104, 111, 108, 100]⟩, .string ⟨#[114, 101, 115, 116]⟩, .string ⟨#[111, 117, 116]⟩, .string ⟨#[112, 108, 97, 99, 101]⟩, .string ⟨#[114, 101, 103, 115]⟩, .string ⟨#[119, 97, 105, 116, 115]⟩, .string ⟨#[102, 105, 108, 101, 115]⟩] 9) = W2 := ⟨_, rfl⟩
  have hb12 : Below W1.heap.size W1 W2 := hW2 ▸ bl_alloc hB3 _
  have hS2 := Lib.hid (fun (w' : World) (h : Below W2.heap.size W2 w') => bl_trans hb12 h)
  have hgl : w4.heap.size < W2.heap.size := by rw [← hW2]; simp
  have hlit := Lib.hid (fun (w' : World) (h : Below W2.heap.size W2 w') (j : Nat) (hj : j < 9) => (h.cell (p := ⟨w4.heap.size, j, none⟩) hgl).trans (hW2 ▸ words_new w4 9 what j hj))
  rw [hW2]
  clear hI sI sB hB hW2 hB3 f1 f2 f3
  replace hb12 := Lib.hid hb12
  go_loopg [8] 9 (fun gh i wr => ∃ k : Nat, gh = 9 - k ∧ i = .int .i64 (k : Int) ∧ k ≤ 9 ∧ Hid (Below W2.heap.size W2 wr))
  case atStart => exact ⟨0, rfl, rfl, by omega, Lib.hid (Below.refl _ _)⟩
  case round =>
    obtain ⟨k, rfl, rfl, hk, hb⟩ := hrel
    by_cases hlt9 : k < 9
    · obtain ⟨t, ht⟩ : ∃ t, (wordsL what)[k]'hlt9 = t := ⟨_, rfl⟩
      obtain ⟨rb, hrb⟩ : ∃ x, (showS s b t).isSome = x := ⟨_, rfl⟩
      obtain ⟨rl, hrl⟩ : ∃ x, (showS s b t).getD [] = x := ⟨_, rfl⟩
      have hrn := hsl.out t
      rw [hrl] at hrn
      have g5 := Lib.hid (fun w' (h : Below W2.heap.size W2 w') => (f5.out t w' (hS2.out w' h)).mono (R' := fun e w2 => ∃ v, e = .returned (.tuple #[v, .bool rb]) ∧ StrsAt w2 v rl ∧ Below w'.heap.size w' w2) (fun e w2 he => by
        obtain ⟨v, h1, h2, h3⟩ := he
        rw [hrb] at h1; rw [hrl] at h2
        exact ⟨v, h1, h2, h3⟩))
      have g6 := Lib.hid (fun w' (h : Below W2.heap.size W2 w') => (f6.out t w' (hS2.out w' h)).mono (R' := fun e w2 => ∃ v, e = .returned (.tuple #[v, .bool rb]) ∧ StrsAt w2 v rl ∧ Below w'.heap.size w' w2) (fun e w2 he => by
        obtain ⟨v, h1, h2, h3⟩ := he
        rw [hrb] at h1; rw [hrl] at h2
        exact ⟨v, h1, h2, h3⟩))
      have hSI := Lib.hid (fun w' (h : Below W2.heap.size W2 w') => (⟨h, hld.out w' (hS2.out w' h), ht ▸ hlit.out w' h k hlt9⟩ : Below W2.heap.size W2 w' ∧ (stLoad ⟨w.heap.size, 0, none⟩).run Tryd.prog w' = .ok (.agg cs) w' ∧ w'.cell? ⟨w4.heap.size, k, none⟩ = some (.string t)))
      have q1 : (rb != rb) = false := by cases rb <;> rfl
      have q2 : (rb == rb) = true := by cases rb <;> rfl
      clear ht hrb hrl
      go_upto_region 9 with fail
      have sB := bl_drew hb.out
      have sI := hSI.out _ sB
      go_region_held3 (fun w' => Below W2.heap.size W2 w' ∧ (stLoad ⟨w.heap.size, 0, none⟩).run Tryd.prog w' = .ok (.agg cs) w' ∧ w'.cell? ⟨w4.heap.size, k, none⟩ = some (.string t)) (first | with_reducible exact hI | with_reducible exact sI)
        (first
        | (go_at_call 32; (with_reducible refine (g5.out _ sB).mono ?_); rintro e w5 ⟨v1, rfl, hv1, hb5⟩; have hB5 := bl_trans sB hb5; have hI := hSI.out _ hB5))
      go_upto_region 10 with fail
      have sB6 := bl_drew hB5
      have sI6 := hSI.out _ sB6
      have hv1' := hv1.below (bl_drew (Below.refl _ _))
      clear hI sI sB hB5
      go_region_held3 (fun w' => Below W2.heap.size W2 w' ∧ (stLoad ⟨w.heap.size, 0, none⟩).run Tryd.prog w' = .ok (.agg cs) w' ∧ w'.cell? ⟨w4.heap.size, k, none⟩ = some (.string t)) (first | with_reducible exact hI | with_reducible exact sI6)
        (first
        | (go_at_call 37; (with_reducible refine (g6.out _ sB6).mono ?_); rintro e w6 ⟨v2, rfl, hv2, hb6⟩; have hB6 := bl_trans sB6 hb6; have hI := hSI.out _ hB6))
      have hsm := Lib.hid (rowsame_any v1 v2 rl w6 hrn (hv1'.below hb6) hv2)
      go_wp2_with (go_at_call 38; refine hsm.out.mono ?_; rintro e w7 ⟨rfl, hb7⟩)
      all_goals go_roundg (9 - (k + 1))
      case measure => omega
      case rel => exact ⟨k + 1, rfl, by go_num, by omega, Lib.hid (bl_trans hB6 hb7)⟩
    · obtain rfl : k = 9 := by omega
      obtain ⟨w9, hw9⟩ : ∃ w9 : World, w9 = wr := ⟨_, rfl⟩
      subst hw9
      have hb19 := hS2.out _ hb.out
      have hS9 := Lib.hid (fun (w' : World) (h : Below w9.heap.size w9 w') => bl_trans hb19 h)
      clear hS2 hlit hb hb12 f5 f6 hsl hgl hfl
      obtain ⟨l, hl⟩ : ∃ l, b.files.map (·.fl) = l := ⟨_, rfl⟩
      have hll : b.files.length = l.length := by rw [← hl, List.length_map]
      have hln : l.length ≤ 3000 := by rw [← hll]; exact hst.filesL
      rw [hll] at hcell
      rw [hl] at hfa
      replace hl := Lib.hid hl
      replace hll := Lib.hid hll
      obtain ⟨NL, hNL⟩ : ∃ NL, l.map (fun x => (⟨x.name.toArray⟩ : ByteArray)) = NL := ⟨_, rfl⟩
      have hNn : NL.length = l.length := by rw [← hNL, List.length_map]
      have hown0 := Lib.hid (World.ownsRow_lit (base := w9.heap.size) (e := 9) (size := 1) w9 #[.string what] 1 (Nat.le_refl _) (by decide) rfl)
      have hB0 := Lib.hid (bl_alloc (Below.refl w9.heap.size w9) (.cells #[.string what] 9))
      go_wp2_with fail
      go_loopg [13, 14] l.length (fun gh v i wr => ∃ k : Nat, gh = l.length - k ∧ i = .int .i64 (k : Int) ∧ k ≤ l.length ∧ Hid (wr.ownsRow w9.heap.size 9 1 v (1 + k) ((what :: NL.take k).map Value.string)) ∧ Hid (Below w9.heap.size w9 wr))
      case atStart => exact ⟨0, rfl, rfl, by omega, hown0, hB0⟩
      case round =>
        obtain ⟨k, rfl, rfl, hk, hown, hb⟩ := hrel
        have c25 := hcell.out wr (hS9.out _ hb.out)
        have hsz := hb.out.size
        by_cases hltk : k < l.length
        · obtain ⟨bb, o, ea, hbl, hr⟩ := hfa.out wr (hS9.out _ hb.out) (by omega)
          have d0 := (hr k hltk).1
          rw [ea] at c25
          obtain ⟨x, hx⟩ : ∃ x, (⟨l[k].name.toArray⟩ : ByteArray) = x := ⟨_, rfl⟩
          unfold strV at d0
          rw [hx] at d0
          have hstep : (what :: NL.take (k + 1)).map Value.string = (what :: NL.take k).map Value.string ++ [.string x] := by
            have e : NL[k]'(by omega) = x := by rw [← hx]; subst hNL; rw [List.getElem_map]
            rw [List.take_succ_eq_append_getElem (show k < NL.length by omega), e]; simp
          replace hstep := Lib.hid hstep
          clear hr hx
          go_wp2_with (at_builtin; refine wpList_append_own _ rfl (.tmp 79) (.tmp 86) 68 rfl w9.heap.size 9 i0 (.string ⟨#[]⟩) 1 16 Tryd.underlying68 hi hz0 hz1 hz2 rfl (by decide) _ _ _ rfl (hown.out.alloc _) ⟨wr.heap.size, 0, none⟩ 1 1 [.string x] rfl rfl (cell_one_new _ _ _) (by intro u hu; simp at hu; subst hu; rfl) (by unfold maxLen; omega) (by omega) (by simp; omega) ?_; intro v1 w1 hown1 hgrow1 hnil1)
          all_goals go_roundg (l.length - (k + 1))
          case measure => omega
          case rel => exact ⟨k + 1, rfl, by go_num, by omega, Lib.hid (by rw [hstep.out]; exact hown1), Lib.hid ((hb.out.alloc hsz _).grown hgrow1 (by simp; omega) (fun j hj => (hown.out.lt j hj).1))⟩
        · obtain rfl : k = l.length := by omega
          go_wp2_with fail
          have ho := hown.out
          rw [List.take_of_length_le (show NL.length ≤ l.length by omega)] at ho
          obtain ⟨NM, hNM⟩ : ∃ NM, what :: NL = NM := ⟨_, rfl⟩
          obtain ⟨N, hN⟩ : ∃ N, 1 + l.length = N := ⟨_, rfl⟩
          have hMn : NM.length = N := by rw [← hNM, ← hN, List.length_cons]; omega
          rw [hNM, hN] at ho
          rcases own_cells ho with ⟨c, _, h0⟩ | ⟨g, cap, rfl, hcap, hg, hc⟩
          · omega
          obtain ⟨w10, hw10⟩ : ∃ w10 : World, w10 = wr := ⟨_, rfl⟩
          subst hw10
          have hb110 := hS9.out _ hb.out
          have hS10 := Lib.hid (fun (w' : World) (h : Below w10.heap.size w10 w') => bl_trans hb110 h)
          have hcs10 := Lib.hid (fun (w' : World) (h : Below w10.heap.size w10 w') (i : Nat) (hi : i < NM.length) => (h.cell (p := ⟨g, 0 + i, none⟩) hg).trans (hc i (.string NM[i]) (by simp [hi])))
          have hN2 : N ≤ 3001 := by omega
          clear hown ho hc hS9 hb hown0 hB0 c25 hsz hN hNM hNL hNn hcell hfa hl hll hlt9 hltk
          replace hb110 := Lib.hid hb110
          go_loopg [15] N (fun gh i wr => ∃ k : Nat, gh = N - k ∧ i = .int .i64 (k : Int) ∧ k ≤ N ∧ Hid (Below w10.heap.size w10 wr))
          case atStart => exact ⟨0, rfl, rfl, by omega, Lib.hid (Below.refl _ _)⟩
          case round =>
            obtain ⟨k, rfl, rfl, hk, hb⟩ := hrel
            by_cases hltN : k < N
            · have hkM : k < NM.length := by rw [hMn]; exact hltN
              obtain ⟨t, ht⟩ : ∃ t, NM[k] = t := ⟨_, rfl⟩
              obtain ⟨rb, hrb⟩ : ∃ x, (fileQ b t).isSome = x := ⟨_, rfl⟩
              obtain ⟨rx, hrx⟩ : ∃ x, (fileQ b t).getD ⟨#[]⟩ = x := ⟨_, rfl⟩
              have g7 := Lib.hid (fun w' (h : Below w10.heap.size w10 w') => (f7.out t w' (hS10.out w' h)).mono (R' := fun e w2 => e = .returned (.tuple #[.string rx, .bool rb]) ∧ Below w'.heap.size w' w2) (fun e w2 he => by
                obtain ⟨h1, h3⟩ := he
                rw [hrb, hrx] at h1
                exact ⟨h1, h3⟩))
              have g8 := Lib.hid (fun w' (h : Below w10.heap.size w10 w') => (f8.out t w' (hS10.out w' h)).mono (R' := fun e w2 => e = .returned (.tuple #[.string rx, .bool rb]) ∧ Below w'.heap.size w' w2) (fun e w2 he => by
                obtain ⟨h1, h3⟩ := he
                rw [hrb, hrx] at h1
                exact ⟨h1, h3⟩))
              have hSI := Lib.hid (fun w' (h : Below w10.heap.size w10 w') => (⟨h, hld.out w' (hS10.out w' h), by have := hcs10.out w' h k hkM; rw [ht, Nat.zero_add] at this; exact this⟩ : Below w10.heap.size w10 w' ∧ (stLoad ⟨w.heap.size, 0, none⟩).run Tryd.prog w' = .ok (.agg cs) w' ∧ w'.cell? ⟨g, k, none⟩ = some (.string t)))
              have q1 : (rb != rb) = false := by cases rb <;> rfl
              have q2 : (rb == rb) = true := by cases rb <;> rfl
              have q3 : (rx.toList == rx.toList) = true := by simp
              clear ht hrb hrx
              go_upto_region 21 with fail
              have sB := bl_drew hb.out
              have sI := hSI.out _ sB
              go_region_held3 (fun w' => Below w10.heap.size w10 w' ∧ (stLoad ⟨w.heap.size, 0, none⟩).run Tryd.prog w' = .ok (.agg cs) w' ∧ w'.cell? ⟨g, k, none⟩ = some (.string t)) (first | with_reducible exact hI | with_reducible exact sI)
                (first
                | (go_at_call 39; (with_reducible refine (g7.out _ sB).mono ?_); rintro e w5 ⟨rfl, hb5⟩; have hB5 := bl_trans sB hb5; have hI := hSI.out _ hB5))
              go_upto_region 22 with fail
              have sB6 := bl_drew hB5
              have sI6 := hSI.out _ sB6
              clear hI sI sB hB5
              go_region_held3 (fun w' => Below w10.heap.size w10 w' ∧ (stLoad ⟨w.heap.size, 0, none⟩).run Tryd.prog w' = .ok (.agg cs) w' ∧ w'.cell? ⟨g, k, none⟩ = some (.string t)) (first | with_reducible exact hI | with_reducible exact sI6)
                (first
                | (go_at_call 40; (with_reducible refine (g8.out _ sB6).mono ?_); rintro e w6 ⟨rfl, hb6⟩; have hB6 := bl_trans sB6 hb6; have hI := hSI.out _ hB6))
              go_wp2_with fail
              all_goals go_roundg (N - (k + 1))
              case measure => omega
              case rel => exact ⟨k + 1, rfl, by go_num, by omega, Lib.hid hB6⟩
            · obtain rfl : k = N := by omega
              go_wp2_with (go_at_call 26; refine (f4.out _ (hS10.out _ hb.out)).mono ?_; rintro e w11 ⟨rfl, hb11⟩)
              all_goals go_ret
              all_goals exact ⟨rfl, up.out _ (bl_trans (hS10.out _ hb.out) hb11)⟩
set_option maxHeartbeats 4000000 in
set_option maxRecDepth 100000 in
theorem states_great (s : StC) (b : StB) (n : Int) (what : ByteArray) (hs : what.size ≤ maxLen) (w : World) (hp : Pow w) (hraw : RawAt w s b) (hg : greatB s b = true ∨ (greatB s b = false ∧ 300 < what.size)) :
    Calls Tryd.prog 12 #[.agg s.cells.toArray, .int .i64 n, .string what] w fun e w' => e = .returned (.bool true) ∧ Below w.heap.size w w' := by
  have hz := (Blk.new w 66 s.cells)
  have hb1 : Below w.heap.size w (w.alloc (.cells s.cells.toArray 66)) := bl_alloc (Below.refl _ _) _
  obtain ⟨W1, hW1⟩ : ∃ W1, w.alloc (.cells s.cells.toArray 66) = W1 := ⟨_, rfl⟩
  rw [hW1] at hz hb1
  have hlt := hz.lt
  have hI := stLoad_is s hz
  have f1 := great_any s b W1 (hraw.below hb1)
  have f4 := Lib.hid (fun w' (h : Below W1.heap.size W1 w') => awake30 w' (hp.below (bl_trans hb1 h)))
  clear hz hraw hp
  generalize s.cells.toArray = cs at *
  rcases hg with hg | ⟨hg, hg'⟩
  all_goals
    rw [hg] at f1
    replace f1 := Lib.hid f1
    go_enter Tryd.func12, Tryd.ntmps12
    go_wp2_with (first
      | (go_at_call 31; refine f1.out.mono ?_; rintro e w2 ⟨rfl, hB⟩)
      | (go_at_call 26; refine (f4.out _ hB).mono ?_; rintro e w7 ⟨rfl, hb7⟩))
    all_goals go_ret
    all_goals exact ⟨rfl, bl_trans hb1 (bl_trans hB hb7)⟩
theorem viewStates_walk (W : World) (hp : Pow W) (cs : Array Value) (x) (h : rState.ok (Sub.all W) cs.toList x) (n : Int) (hn : (Lit.int .i64 n).wf = true) (what : ByteArray) (hs : what.size ≤ maxLen) :
    Calls Tryd.prog 12 #[.agg cs, .int .i64 n, .string what] W fun e w' => e = .returned (.bool true) ∧ Below W.heap.size W w' := by
  obtain ⟨s, b, hc, hraw⟩ := raw_of h
  obtain rfl : cs = s.cells.toArray := by rw [← hc]
  by_cases hg : greatB s b = true
  · exact states_great s b n what hs W hp hraw (.inl hg)
  · have hg' : greatB s b = false := by simpa using hg
    by_cases hw : what.size ≤ 300
    · exact states_main s b n (wf64 hn) what hw W hp hraw hg'
    · exact states_great s b n what hs W hp hraw (.inr ⟨hg', by omega⟩)
end Go.Proofs.YtjfpepinmbbnbaaDoor
