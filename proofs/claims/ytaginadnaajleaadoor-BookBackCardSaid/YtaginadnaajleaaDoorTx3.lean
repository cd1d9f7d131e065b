/-
  book.Text: the walk; of chapter 32.
  Conditions: the table of powers of ten lies as laid; as each theorem states them.
-/
import Derived.Test.YtaginadnaajleaaDoorTx
import Derived.Deep.CutBlock
import Derived.Deep.LoopGhost
namespace Go.Proofs.YtaginadnaajleaaDoor
open Go.RowKit
set_option linter.unusedVariables false
set_option linter.unusedSimpArgs false
open BM (Cs)
theorem cells11t {w : World} {g : Nat} {t : TypeId} {v0 v1 v2 v3 v4 v5 v6 v7 v8 v9 v10 : Value} (h : Blk w g t [v0, v1, v2, v3, v4, v5, v6, v7, v8, v9, v10]) :
    w.cell? ⟨g, 0, none⟩ = some v0 ∧ w.cell? ⟨g, 1, none⟩ = some v1 ∧ w.cell? ⟨g, 2, none⟩ = some v2 ∧ w.cell? ⟨g, 3, none⟩ = some v3 ∧ w.cell? ⟨g, 4, none⟩ = some v4 ∧ w.cell? ⟨g, 5, none⟩ = some v5 ∧ w.cell? ⟨g, 6, none⟩ = some v6 ∧ w.cell? ⟨g, 7, none⟩ = some v7 ∧ w.cell? ⟨g, 8, none⟩ = some v8 ∧ w.cell? ⟨g, 9, none⟩ = some v9 ∧ w.cell? ⟨g, 10, none⟩ = some v10 :=
  ⟨h.cell 0, h.cell 1, h.cell 2, h.cell 3, h.cell 4, h.cell 5, h.cell 6, h.cell 7, h.cell 8, h.cell 9, h.cell 10⟩
theorem num_len (n : Int) (hn : -9223372036854775808 ≤ n ∧ n ≤ 9223372036854775807) : (BM.numT n).length ≤ 21 := by
  have := Lib.itoa_length_le n hn.1 hn.2
  unfold BM.numT
  omega
theorem join_text : ∀ (ls : List (List UInt8)), 0 < ls.length → Lib.join ls [10] ++ [10] = ls.flatMap (· ++ [10])
  | [], h => by simp at h
  | x :: r, _ => by
    rw [Lib.join_cons]
    induction r generalizing x with
    | nil => simp [Lib.joinTail]
    | cons y r ih =>
      have h2 := ih y (by simp)
      simp only [Lib.joinTail, List.map_cons, List.flatten_cons, List.flatMap_cons, List.append_assoc, List.cons_append, List.nil_append] at h2 ⊢
      rw [h2]
theorem own_cap {w : World} {base e n : Nat} {v : Value} {xs : List Value} (h : w.ownsRow base e 1 v n xs) (hn : 0 < n) : ∃ b cap, v = .slice (some ⟨b, 0, none⟩) n cap ∧ n ≤ cap ∧ b < w.heap.size ∧ ∀ j u, xs[j]? = some u → w.cell? ⟨b, j, none⟩ = some u := by
  obtain ⟨a, c, rfl, _, hr⟩ := own_rows h
  obtain ⟨b, rfl, hb, hc⟩ := hr hn
  refine ⟨b, c, rfl, ?_, hb, hc⟩
  rcases h.2 with ⟨hv, _⟩ | ⟨gq, cap, cur, hv, _, _, hx⟩
  · cases hv
  · injection hv with _ _ h3
    subst h3
    first | exact hx.1 | exact hx.2.1 | exact hx.2.2.1 | omega
theorem join_rows {w : World} {base : Nat} {v : Value} {ls : List (List UInt8)} (h : w.ownsRow base 9 1 v ls.length (ls.map strV)) (hn : 0 < ls.length) (hN : ls.length ≤ 100000) (hl : (Lib.join ls [10]).length ≤ 100000) :
    Calls Tryd.prog 17 #[v, .string ⟨#[10]⟩] w fun e w' => e = .returned (.string ⟨(Lib.join ls [10]).toArray⟩) ∧ Below w.heap.size w w' := by
  obtain ⟨b, cap, rfl, hcap, hb, hc⟩ := own_cap h hn
  have hj := Tryd.strings_Join b 0 cap (ls.map fun t => (⟨t.toArray⟩ : ByteArray)) ⟨#[10]⟩ w (fun j x hx => by
    rw [Nat.zero_add]
    rw [List.getElem?_map] at hx
    obtain ⟨t, ht, rfl⟩ := Option.map_eq_some_iff.1 hx
    exact hc j _ (by rw [List.getElem?_map, ht]; rfl)) hb (by simp; omega) (by simpa using hcap) (by rw [map_list]; exact Nat.le_trans hl (by omega))
  rw [map_list, List.length_map] at hj
  exact hj
/-- what Text answers -/
def TextIs (c : Cs) (w : World) (e : Ending) (w' : World) : Prop := Below w.heap.size w w' ∧
  ((e = .returned (.tuple #[strV (BM.textS c), .bool true]) ∧ (BM.parseS (BM.textS c)).2.2 = 0 ∧ sameS (BM.parseS (BM.textS c)).1 c = true) ∨
   (e = .returned (.tuple #[strV [], .bool false]) ∧ ¬ ((BM.parseS (BM.textS c)).2.2 = 0 ∧ sameS (BM.parseS (BM.textS c)).1 c = true)))
set_option maxHeartbeats 8000000 in
set_option maxRecDepth 100000 in
theorem btext_any (c : Cs) (sa ia fa la : Option Addr) (sc ic fc lc : Nat) (w : World) (h : CsAt w c (.slice sa c.sed.length sc) (.slice ia c.inputs.length ic) (.slice fa c.files.length fc) (.slice la c.lines.length lc)) (z : Told c) (hp : Pow w) :
    Calls Tryd.prog 7 #[.agg #[.slice sa c.sed.length sc, .bool c.quiet, .bool c.separate, .bool c.place, .bool c.extended, .slice ia c.inputs.length ic, .slice fa c.files.length fc, .int .i64 c.cap, .int .i64 c.period, .int .i64 c.fuel, .slice la c.lines.length lc]] w (TextIs c w) := by
  obtain ⟨W, hW⟩ : ∃ W, (w.alloc (.cells #[.slice sa c.sed.length sc, .bool c.quiet, .bool c.separate, .bool c.place, .bool c.extended, .slice ia c.inputs.length ic, .slice fa c.files.length fc, .int .i64 c.cap, .int .i64 c.period, .int .i64 c.fuel, .slice la c.lines.length lc] 29)).alloc (.cells #[.slice none 0 0] 24) = W := ⟨_, rfl⟩
  obtain ⟨C, hC⟩ : ∃ C : List Value, C = [.slice sa c.sed.length sc, .bool c.quiet, .bool c.separate, .bool c.place, .bool c.extended, .slice ia c.inputs.length ic, .slice fa c.files.length fc, .int .i64 c.cap, .int .i64 c.period, .int .i64 c.fuel, .slice la c.lines.length lc] := ⟨_, rfl⟩
  have hT0 : TS w C [] W := by rw [← hW, hC]; exact TS.start w _
  have hcl := fun wr ls (h : TS w C ls wr) => cells11t (hC ▸ h.cs)
  have hput := Lib.hid (fun ls wr (h : TS w C ls wr) gw n ws hn h0 hN hl hls hb => put_TS h gw n ws hn h0 hN hl hls hb)
  have hqs := Lib.hid (fun wr ls (ht : TS w C ls wr) => (SH.quote_any sa sc c.sed wr (by have := z.sed; omega) (by obtain ⟨_, _, e, _, hb⟩ := h.sed.below ht.bel; injection e with e1 e2 e3; subst e1; exact hb)))
  replace hW := Lib.hid hW
  replace h := Lib.hid h
  replace hT0 := Lib.hid hT0
  replace hcl := Lib.hid hcl
  replace hC := Lib.hid hC
  have hw0 := Lib.hid hp
  clear hp
  have sl := SH.flat_len c.sed
  replace z := Lib.hid z
  go_enter Tryd.func7, Tryd.ntmps7
  go_upto_region 3 with fail
  rw [hW.out]
  clear hW
  obtain ⟨k0, k1, k2, k3, k4, k5, k6, k7, k8, k9, k10⟩ := hcl.out _ _ hT0.out
  go_upto_if 22 with fail
  go_cut [] from 22 to 28 (fun wx => TS w C (sedL c) wx)
  case first =>
    by_cases h0 : 0 < c.sed.length
    · have q0 : decide ((0 : Int) < (c.sed.length : Int)) = true := by rw [decide_eq_true_eq]; omega
      have hR : rowS [BM.sedW, SH.quoteS c.sed] = BM.sedW ++ 32 :: SH.quoteS c.sed := rowS_two _ _
      have hql : (SH.quoteS c.sed).length ≤ 4 * c.sed.length + 2 := by unfold SH.quoteS; simp only [List.length_cons, List.length_append, List.length_nil]; omega
      have hzs := z.out.sed
      have hpt := fun w2 (hT : TS w C [] w2) => hput.out [] _ (hT.below (bl_alloc (Below.refl _ _) (.cells #[strV BM.sedW, strV (SH.quoteS c.sed)] 9))) w2.heap.size 2 [BM.sedW, SH.quoteS c.sed] rfl (by omega) (by omega) (by rw [hR]; simp only [List.length_append, List.length_cons, BM.sedW, List.length_nil]; omega) (by simp) (Blk.new _ _ _)
      rw [hR] at hpt
      have hsl : sedL c = [] ++ [BM.sedW ++ 32 :: SH.quoteS c.sed] := by unfold sedL; rw [if_pos h0]; rfl
      rw [← hsl] at hpt
      replace hpt := Lib.hid hpt
      clear hR hsl
      go_wp2_with (first
        | (go_at_call 15; refine (hqs.out _ _ hT0.out).mono ?_; rintro e w2 ⟨rfl, hb2⟩; have hT2 := Lib.hid (hT0.out.below hb2))
        | (go_at_call 13; refine (hpt.out _ hT2.out).mono ?_; rintro e w3 ⟨rfl, hT3, _⟩))
      go_meet
      exact hT3
    · have q0 : decide ((0 : Int) < (c.sed.length : Int)) = false := by rw [decide_eq_false_iff_not]; omega
      go_wp2_with fail
      go_meet
      unfold sedL
      rw [if_neg h0]
      exact hT0.out
  case rest =>
  replace hcut := Lib.hid hcut
  obtain ⟨w2, hw2⟩ : ∃ w2 : World, w2 = wc := ⟨_, rfl⟩
  subst hw2
  clear k0 k1 k2 k3 k4 k5 k6 k7 k8 k9 k10 hqs sl hT0
  obtain ⟨k0, k1, k2, k3, k4, k5, k6, k7, k8, k9, k10⟩ := hcl.out _ _ hcut.out
  clear k0 k5 k6 k7 k8 k9 k10
  have hb3 := Blk.new w2 49 [.bool c.quiet, .string ⟨#[113, 117, 105, 101, 116]⟩, .bool c.separate, .string ⟨#[115, 101, 112, 97, 114, 97, 116, 101]⟩, .bool c.place, .string ⟨#[112, 108, 97, 99, 101]⟩, .bool c.extended, .string ⟨#[101, 120, 116, 101, 110, 100, 101, 100]⟩]
  obtain ⟨w3, hw3⟩ : ∃ w3, w2.alloc (.cells #[.bool c.quiet, .string ⟨#[113, 117, 105, 101, 116]⟩, .bool c.separate, .string ⟨#[115, 101, 112, 97, 114, 97, 116, 101]⟩, .bool c.place, .string ⟨#[112, 108, 97, 99, 101]⟩, .bool c.extended, .string ⟨#[101, 120, 116, 101, 110, 100, 101, 100]⟩] 49) = w3 := ⟨_, rfl⟩
  have hT3 := Lib.hid (hcut.out.below (hw3 ▸ bl_alloc (Below.refl _ _) _ : Below w2.heap.size w2 w3))
  rw [hw3] at hb3
  replace hb3 := Lib.hid hb3
  replace hw3 := Lib.hid hw3
  have hg2 := Lib.hid hcut.out.sz
  go_upto_block 0 with fail
  rw [hw3.out]
  clear hw3 k1 k2 k3 k4
  generalize w2.heap.size = g2 at *
  have hopt := Lib.hid (fun ls wr (h : TS w C ls wr) (b : List UInt8) hl hls g hg => put2 h BM.optionW b hl hls g hg)
  have hso := Lib.hid (sedL_len c)
  go_wp2_with fail
  go_loopg [47] 4 (fun gh i wr => ∃ k : Nat, gh = 4 - k ∧ i = .int .i64 (k : Int) ∧ k ≤ 4 ∧ Hid (TS w C (sedL c ++ optL ((ops4 c).take k)) wr) ∧ Hid (Blk wr g2 49 [.bool c.quiet, .string ⟨#[113, 117, 105, 101, 116]⟩, .bool c.separate, .string ⟨#[115, 101, 112, 97, 114, 97, 116, 101]⟩, .bool c.place, .string ⟨#[112, 108, 97, 99, 101]⟩, .bool c.extended, .string ⟨#[101, 120, 116, 101, 110, 100, 101, 100]⟩]))
  case atStart => exact ⟨0, rfl, rfl, by omega, Lib.hid (by simpa [optL] using hT3.out), hb3⟩
  case round =>
    clear hT3 hb3 hcut
    obtain ⟨k, rfl, rfl, hk, hT, hb⟩ := hrel
    by_cases hlt : k < 4
    · have hst := fun (w5 : World) (h : Stay w wr w5) => h g2 _ _ (by decide) (by have := hg2.out; omega) hb.out
      have hst2 := fun (o : Obj) (w5 : World) (h : Stay w (wr.alloc o) w5) => h g2 _ _ (by decide) (by have := hg2.out; omega) (hb.out.alloc o)
      have hgl := hb.out.lt
      by_cases h0 : k = 0
      · subst h0
        have c0 : wr.cell? ⟨g2, 0, none⟩ = some (.bool c.quiet) := hb.out.cell 0
        have c1 : wr.cell? ⟨g2, 1, none⟩ = some (.string ⟨BM.quietW.toArray⟩) := hb.out.cell 1
        simp only [BM.quietW] at c1
        have e1 : optL ((ops4 c).take (0 + 1)) = optL ((ops4 c).take 0) ++ (if c.quiet then [BM.optionW ++ 32 :: BM.quietW] else []) := by simp [optL, ops4]
        have hol := Nat.le_trans (optL_len ((ops4 c).take 0)) (by simp [ops4] : ((ops4 c).take 0).length ≤ 4)
        have hso2 := hso.out
        rcases Bool.eq_false_or_eq_true c.quiet with hq | hq
        case inl =>
          rw [hq] at c0 e1
          have hop := hopt.out _ _ (hT.out.below (bl_alloc (Below.refl _ _) (.cells #[.bool true, .string ⟨BM.quietW.toArray⟩] 49))) BM.quietW (by decide) (by rw [List.length_append]; omega) (wr.heap.size + 1) (by simp)
          rw [List.append_assoc, ← (show optL ((ops4 c).take (0 + 1)) = optL ((ops4 c).take 0) ++ [BM.optionW ++ 32 :: BM.quietW] from e1)] at hop
          simp only [BM.quietW, BM.optionW] at hop
          replace hop := Lib.hid hop
          replace e1 := Lib.hid e1
          replace hst2 := Lib.hid hst2
          replace hst := Lib.hid hst
          clear hq
          go_wp2_with (go_at_call 13; refine hop.out.mono ?_; rintro e w5 ⟨rfl, hT5, hs5⟩; replace hT5 := Lib.hid hT5; have hb5 := Lib.hid (hst2.out _ _ hs5); clear hs5)
          all_goals go_roundg (4 - (0 + 1))
          case measure => omega
          case rel => exact ⟨0 + 1, rfl, by go_num, by omega, hT5, hb5⟩
        case inr =>
          rw [hq] at c0 e1
          replace hst2 := Lib.hid hst2
          replace hst := Lib.hid hst
          have hT5 := Lib.hid (hT.out.below (bl_alloc (Below.refl _ _) (.cells #[.bool false, .string ⟨BM.quietW.toArray⟩] 49)))
          have hb5 := Lib.hid (hb.out.alloc (.cells #[.bool false, .string ⟨BM.quietW.toArray⟩] 49))
          simp only [BM.quietW] at hT5 hb5
          replace e1 := Lib.hid e1
          clear hq
          go_wp2_with fail
          all_goals go_roundg (4 - (0 + 1))
          case measure => omega
          case rel => exact ⟨0 + 1, rfl, by go_num, by omega, by rw [show optL ((ops4 c).take (0 + 1)) = optL ((ops4 c).take 0) from by rw [e1.out]; simp]; exact hT5, hb5⟩
      by_cases h1 : k = 1
      · subst h1
        have c0 : wr.cell? ⟨g2, 2, none⟩ = some (.bool c.separate) := hb.out.cell 2
        have c1 : wr.cell? ⟨g2, 3, none⟩ = some (.string ⟨BM.separateW.toArray⟩) := hb.out.cell 3
        simp only [BM.separateW] at c1
        have e1 : optL ((ops4 c).take (1 + 1)) = optL ((ops4 c).take 1) ++ (if c.separate then [BM.optionW ++ 32 :: BM.separateW] else []) := by simp [optL, ops4]
        have hol := Nat.le_trans (optL_len ((ops4 c).take 1)) (by simp [ops4] : ((ops4 c).take 1).length ≤ 4)
        have hso2 := hso.out
        rcases Bool.eq_false_or_eq_true c.separate with hq | hq
        case inl =>
          rw [hq] at c0 e1
          have hop := hopt.out _ _ (hT.out.below (bl_alloc (Below.refl _ _) (.cells #[.bool true, .string ⟨BM.separateW.toArray⟩] 49))) BM.separateW (by decide) (by rw [List.length_append]; omega) (wr.heap.size + 1) (by simp)
          rw [List.append_assoc, ← (show optL ((ops4 c).take (1 + 1)) = optL ((ops4 c).take 1) ++ [BM.optionW ++ 32 :: BM.separateW] from e1)] at hop
          simp only [BM.separateW, BM.optionW] at hop
          replace hop := Lib.hid hop
          replace e1 := Lib.hid e1
          replace hst2 := Lib.hid hst2
          replace hst := Lib.hid hst
          clear hq
          go_wp2_with (go_at_call 13; refine hop.out.mono ?_; rintro e w5 ⟨rfl, hT5, hs5⟩; replace hT5 := Lib.hid hT5; have hb5 := Lib.hid (hst2.out _ _ hs5); clear hs5)
          all_goals go_roundg (4 - (1 + 1))
          case measure => omega
          case rel => exact ⟨1 + 1, rfl, by go_num, by omega, hT5, hb5⟩
        case inr =>
          rw [hq] at c0 e1
          replace hst2 := Lib.hid hst2
          replace hst := Lib.hid hst
          have hT5 := Lib.hid (hT.out.below (bl_alloc (Below.refl _ _) (.cells #[.bool false, .string ⟨BM.separateW.toArray⟩] 49)))
          have hb5 := Lib.hid (hb.out.alloc (.cells #[.bool false, .string ⟨BM.separateW.toArray⟩] 49))
          simp only [BM.separateW] at hT5 hb5
          replace e1 := Lib.hid e1
          clear hq
          go_wp2_with fail
          all_goals go_roundg (4 - (1 + 1))
          case measure => omega
          case rel => exact ⟨1 + 1, rfl, by go_num, by omega, by rw [show optL ((ops4 c).take (1 + 1)) = optL ((ops4 c).take 1) from by rw [e1.out]; simp]; exact hT5, hb5⟩
      by_cases h2 : k = 2
      · subst h2
        have c0 : wr.cell? ⟨g2, 4, none⟩ = some (.bool c.place) := hb.out.cell 4
        have c1 : wr.cell? ⟨g2, 5, none⟩ = some (.string ⟨BM.placeW.toArray⟩) := hb.out.cell 5
        simp only [BM.placeW] at c1
        have e1 : optL ((ops4 c).take (2 + 1)) = optL ((ops4 c).take 2) ++ (if c.place then [BM.optionW ++ 32 :: BM.placeW] else []) := by simp [optL, ops4]
        have hol := Nat.le_trans (optL_len ((ops4 c).take 2)) (by simp [ops4] : ((ops4 c).take 2).length ≤ 4)
        have hso2 := hso.out
        rcases Bool.eq_false_or_eq_true c.place with hq | hq
        case inl =>
          rw [hq] at c0 e1
          have hop := hopt.out _ _ (hT.out.below (bl_alloc (Below.refl _ _) (.cells #[.bool true, .string ⟨BM.placeW.toArray⟩] 49))) BM.placeW (by decide) (by rw [List.length_append]; omega) (wr.heap.size + 1) (by simp)
          rw [List.append_assoc, ← (show optL ((ops4 c).take (2 + 1)) = optL ((ops4 c).take 2) ++ [BM.optionW ++ 32 :: BM.placeW] from e1)] at hop
          simp only [BM.placeW, BM.optionW] at hop
          replace hop := Lib.hid hop
          replace e1 := Lib.hid e1
          replace hst2 := Lib.hid hst2
          replace hst := Lib.hid hst
          clear hq
          go_wp2_with (go_at_call 13; refine hop.out.mono ?_; rintro e w5 ⟨rfl, hT5, hs5⟩; replace hT5 := Lib.hid hT5; have hb5 := Lib.hid (hst2.out _ _ hs5); clear hs5)
          all_goals go_roundg (4 - (2 + 1))
          case measure => omega
          case rel => exact ⟨2 + 1, rfl, by go_num, by omega, hT5, hb5⟩
        case inr =>
          rw [hq] at c0 e1
          replace hst2 := Lib.hid hst2
          replace hst := Lib.hid hst
          have hT5 := Lib.hid (hT.out.below (bl_alloc (Below.refl _ _) (.cells #[.bool false, .string ⟨BM.placeW.toArray⟩] 49)))
          have hb5 := Lib.hid (hb.out.alloc (.cells #[.bool false, .string ⟨BM.placeW.toArray⟩] 49))
          simp only [BM.placeW] at hT5 hb5
          replace e1 := Lib.hid e1
          clear hq
          go_wp2_with fail
          all_goals go_roundg (4 - (2 + 1))
          case measure => omega
          case rel => exact ⟨2 + 1, rfl, by go_num, by omega, by rw [show optL ((ops4 c).take (2 + 1)) = optL ((ops4 c).take 2) from by rw [e1.out]; simp]; exact hT5, hb5⟩
      by_cases h3 : k = 3
      · subst h3
        have c0 : wr.cell? ⟨g2, 6, none⟩ = some (.bool c.extended) := hb.out.cell 6
        have c1 : wr.cell? ⟨g2, 7, none⟩ = some (.string ⟨BM.extendedW.toArray⟩) := hb.out.cell 7
        simp only [BM.extendedW] at c1
        have e1 : optL ((ops4 c).take (3 + 1)) = optL ((ops4 c).take 3) ++ (if c.extended then [BM.optionW ++ 32 :: BM.extendedW] else []) := by simp [optL, ops4]
        have hol := Nat.le_trans (optL_len ((ops4 c).take 3)) (by simp [ops4] : ((ops4 c).take 3).length ≤ 4)
        have hso2 := hso.out
        rcases Bool.eq_false_or_eq_true c.extended with hq | hq
        case inl =>
          rw [hq] at c0 e1
          have hop := hopt.out _ _ (hT.out.below (bl_alloc (Below.refl _ _) (.cells #[.bool true, .string ⟨BM.extendedW.toArray⟩] 49))) BM.extendedW (by decide) (by rw [List.length_append]; omega) (wr.heap.size + 1) (by simp)
          rw [List.append_assoc, ← (show optL ((ops4 c).take (3 + 1)) = optL ((ops4 c).take 3) ++ [BM.optionW ++ 32 :: BM.extendedW] from e1)] at hop
          simp only [BM.extendedW, BM.optionW] at hop
          replace hop := Lib.hid hop
          replace e1 := Lib.hid e1
          replace hst2 := Lib.hid hst2
          replace hst := Lib.hid hst
          clear hq
          go_wp2_with (go_at_call 13; refine hop.out.mono ?_; rintro e w5 ⟨rfl, hT5, hs5⟩; replace hT5 := Lib.hid hT5; have hb5 := Lib.hid (hst2.out _ _ hs5); clear hs5)
          all_goals go_roundg (4 - (3 + 1))
          case measure => omega
          case rel => exact ⟨3 + 1, rfl, by go_num, by omega, hT5, hb5⟩
        case inr =>
          rw [hq] at c0 e1
          replace hst2 := Lib.hid hst2
          replace hst := Lib.hid hst
          have hT5 := Lib.hid (hT.out.below (bl_alloc (Below.refl _ _) (.cells #[.bool false, .string ⟨BM.extendedW.toArray⟩] 49)))
          have hb5 := Lib.hid (hb.out.alloc (.cells #[.bool false, .string ⟨BM.extendedW.toArray⟩] 49))
          simp only [BM.extendedW] at hT5 hb5
          replace e1 := Lib.hid e1
          clear hq
          go_wp2_with fail
          all_goals go_roundg (4 - (3 + 1))
          case measure => omega
          case rel => exact ⟨3 + 1, rfl, by go_num, by omega, by rw [show optL ((ops4 c).take (3 + 1)) = optL ((ops4 c).take 3) from by rw [e1.out]; simp]; exact hT5, hb5⟩
      omega
    · obtain rfl : k = 4 := by omega
      rw [List.take_of_length_le (by simp [ops4])] at hT
      obtain ⟨w4, hw4⟩ : ∃ w4 : World, w4 = wr := ⟨_, rfl⟩
      subst hw4
      have hp2l : (sedL c ++ optL (ops4 c)).length ≤ 5 := by have h1 := optL_len (ops4 c); have h2 := hso.out; rw [List.length_append]; have h3 : (ops4 c).length = 4 := rfl; omega
      obtain ⟨p2, hp2⟩ : ∃ p2, sedL c ++ optL (ops4 c) = p2 := ⟨_, rfl⟩
      rw [hp2] at hT hp2l
      replace hp2 := Lib.hid hp2
      obtain ⟨k0, k1, k2, k3, k4, k5, k6, k7, k8, k9, k10⟩ := hcl.out _ _ hT.out
      clear k0 k1 k2 k3 k4 k6 k7 k8 k9 k10 hb hg2 hopt hso hlt
      have hrows := h.out.inp
      obtain ⟨ra, rc, hq1, _, hrw⟩ := hrows
      injection hq1 with hq1 _ hq2
      subst hq1 hq2
      replace hrw : TxtAt w _ c.inputs := hrw
      replace hrw := Lib.hid hrw
      have hzl := z.out.inputs
      have hzi := Lib.hid z.out.inp
      obtain ⟨xs, hxs⟩ : ∃ xs, c.inputs = xs := ⟨_, rfl⟩
      obtain ⟨n, hn⟩ : ∃ n, xs.length = n := ⟨_, rfl⟩
      rw [hxs] at hrw hzl hzi k5
      rw [hn] at hzl k5
      replace hn := Lib.hid hn
      replace hxs := Lib.hid hxs
      go_wp2_with fail
      go_loopg [63] n (fun gh i wr => ∃ k : Nat, gh = n - k ∧ i = .int .i64 (k : Int) ∧ k ≤ n ∧ Hid (TS w C (p2 ++ inpL (xs.take k)) wr))
      case atStart => exact ⟨0, rfl, rfl, by omega, Lib.hid (by simpa [inpL] using hT.out)⟩
      case round =>
        clear hT
        obtain ⟨k, rfl, rfl, hk, hT⟩ := hrel
        by_cases hlt : k < n
        · have k1 : k < xs.length := by rw [hn.out]; exact hlt
          obtain ⟨p, o, rfl, hpp, hr⟩ := hrw.out (by omega)
          have e1 : wr.cell? ⟨p, o + k, none⟩ = some (strV xs[k]) := (hT.out.bel.cell (p := ⟨p, o + k, none⟩) hpp).trans (hr k k1)
          have hib : (k : Int) < (n : Int) := by omega
          have esn : inpL (xs.take (k + 1)) = inpL (xs.take k) ++ [BM.inputW ++ 32 :: xs[k]] := by unfold inpL; rw [take_snoc k1, List.map_append]; rfl
          have hpl : (p2 ++ inpL (xs.take k)).length ≤ 100000 := by unfold inpL; simp only [List.length_append, List.length_map, List.length_take]; omega
          have hxl := hzi.out xs[k] (List.getElem_mem k1)
          have hop := put2 hT.out BM.inputW xs[k] (by simp only [BM.inputW, List.length_cons, List.length_nil]; omega) (by omega) wr.heap.size rfl
          rw [List.append_assoc, ← esn] at hop
          unfold strV at e1 hop
          generalize (⟨xs[k].toArray⟩ : ByteArray) = x at *
          simp only [BM.inputW] at hop
          replace hop := Lib.hid hop
          clear hr esn hpl
          go_wp2_with (go_at_call 13; refine hop.out.mono ?_; rintro e w5 ⟨rfl, hT5, _⟩; replace hT5 := Lib.hid hT5)
          all_goals go_roundg (n - (k + 1))
          case measure => omega
          case rel => exact ⟨k + 1, rfl, by go_num, by omega, hT5⟩
        · obtain rfl : k = n := by omega
          rw [List.take_of_length_le (by rw [hn.out]; exact Nat.le_refl _)] at hT
          obtain ⟨w5, hw5⟩ : ∃ w5 : World, w5 = wr := ⟨_, rfl⟩
          subst hw5
          have hp3l : (p2 ++ inpL xs).length ≤ 1005 := by unfold inpL; rw [List.length_append, List.length_map, hn.out]; omega
          have hp3 : sedL c ++ optL (ops4 c) ++ inpL c.inputs = p2 ++ inpL xs := by rw [hp2.out, hxs.out]
          generalize p2 ++ inpL xs = p3 at *
          replace hp3 := Lib.hid hp3
          obtain ⟨k0, k1, k2, k3, k4, k5', k6, k7, k8, k9, k10⟩ := hcl.out _ _ hT.out
          clear k0 k1 k2 k3 k4 k5 k5' k7 k8 k9 k10 hlt hrw hzi hzl hn hxs hp2 hk
          have hrows := h.out.fil
          obtain ⟨ra, rc, hq1, _, hrw⟩ := hrows
          injection hq1 with hq1 _ hq2
          subst hq1 hq2
          replace hrw : FilAt w _ c.files := hrw
          replace hrw := Lib.hid hrw
          have hzl := z.out.files
          have hzi := Lib.hid z.out.fil
          obtain ⟨fs, hfs⟩ : ∃ fs, c.files = fs := ⟨_, rfl⟩
          obtain ⟨n, hn⟩ : ∃ n, fs.length = n := ⟨_, rfl⟩
          rw [hfs] at hrw hzl hzi k6
          rw [hn] at hzl k6
          replace hn := Lib.hid hn
          replace hfs := Lib.hid hfs
          go_wp2_with fail
          go_loopg [75] n (fun gh i wr => ∃ k : Nat, gh = n - k ∧ i = .int .i64 (k : Int) ∧ k ≤ n ∧ Hid (TS w C (p3 ++ filL (fs.take k)) wr))
          case atStart => exact ⟨0, rfl, rfl, by omega, Lib.hid (by simpa [filL] using hT.out)⟩
          case round =>
            clear hT
            obtain ⟨k, rfl, rfl, hk, hT⟩ := hrel
            by_cases hlt : k < n
            · have k1 : k < fs.length := by rw [hn.out]; exact hlt
              obtain ⟨p, o, rfl, hpp, hr⟩ := hrw.out (by omega)
              obtain ⟨f1, u, f2, hu⟩ := hr k k1
              have e1 : wr.cell? ⟨p, o + k * 2, none⟩ = some (strV fs[k].1) := (hT.out.bel.cell (p := ⟨p, o + k * 2, none⟩) hpp).trans f1
              have e2 : wr.cell? ⟨p, o + k * 2 + 1, none⟩ = some u := (hT.out.bel.cell (p := ⟨p, o + k * 2 + 1, none⟩) hpp).trans f2
              replace hu := hu.below hT.out.bel
              obtain ⟨ba, bc, rfl, _, hby⟩ := hu
              have hib : (k : Int) < (n : Int) := by omega
              have esn : filL (fs.take (k + 1)) = filL (fs.take k) ++ [BM.fileW ++ 32 :: (fs[k].1 ++ 32 :: SH.quoteS fs[k].2)] := by unfold filL; rw [take_snoc k1, List.map_append]; rfl
              have hpl : (p3 ++ filL (fs.take k)).length ≤ 100000 := by unfold filL; simp only [List.length_append, List.length_map, List.length_take]; omega
              obtain ⟨hx1, hx2⟩ := hzi.out fs[k] (List.getElem_mem k1)
              have hqf := SH.flat_len fs[k].2
              have hql : (SH.quoteS fs[k].2).length ≤ 40002 := by unfold SH.quoteS; simp only [List.length_cons, List.length_append, List.length_nil]; omega
              have hqq := fun w6 (hb : Below wr.heap.size wr w6) => SH.quote_any ba bc fs[k].2 w6 (by omega) (hby.below hb)
              have hop := fun w6 (hb : Below wr.heap.size wr w6) => put3 (hT.out.below hb) BM.fileW fs[k].1 (SH.quoteS fs[k].2) (by simp only [BM.fileW, List.length_cons, List.length_nil]; omega) (by omega) w6.heap.size rfl
              rw [List.append_assoc, ← esn] at hop
              unfold SH.ByteIs at hqq
              unfold strV at e1 hop hqq
              generalize (⟨fs[k].1.toArray⟩ : ByteArray) = x at *
              generalize (⟨(SH.quoteS fs[k].2).toArray⟩ : ByteArray) = y at *
              generalize fs[k].2.length = m at *
              simp only [BM.fileW] at hop
              obtain ⟨W5, hW5⟩ : ∃ W5, wr.alloc (.cells #[.string x, .slice ba m bc] 52) = W5 := ⟨_, rfl⟩
              have hb5 : Below wr.heap.size wr W5 := hW5 ▸ bl_alloc (Below.refl _ _) _
              have hblk : Blk W5 wr.heap.size 52 [.string x, .slice ba m bc] := by rw [← hW5]; exact Blk.new wr _ _
              have hcc := Lib.hid (fun w6 (hb : Below W5.heap.size W5 w6) => (⟨(hblk.below hb).cell 0, (hblk.below hb).cell 1⟩ : w6.cell? ⟨wr.heap.size, 0, none⟩ = some (.string x) ∧ w6.cell? ⟨wr.heap.size, 1, none⟩ = some (.slice ba m bc)))
              have hgl5 := hblk.lt
              replace hop := Lib.hid hop
              replace hqq := Lib.hid hqq
              replace hW5 := Lib.hid hW5
              clear hr esn hpl f1 f2 hby hblk hql hqf hx1 hx2
              go_upto_region 19 with fail
              rw [hW5.out]
              clear hW5
              obtain ⟨q1, q2⟩ := hcc.out _ (Below.refl _ _)
              go_region_law (first
                | (go_simp; go_at_call 15; refine (hqq.out _ (bl_drew hb5)).mono ?_; rintro e w6 ⟨rfl, hb6⟩; have hB6 := bl_trans (bl_drew (Below.refl _ _)) hb6; obtain ⟨q3, q4⟩ := hcc.out _ hB6; have hgl6 := Nat.lt_of_lt_of_le hgl5 hB6.size)
                | (go_simp; go_at_call 13; refine (hop.out _ (bl_trans hb5 hB6)).mono ?_; rintro e w7 ⟨rfl, hT7, _⟩; replace hT7 := Lib.hid hT7))
              all_goals go_wp2_with fail
              all_goals go_roundg (n - (k + 1))
              all_goals first
                | omega
                | exact ⟨k + 1, rfl, by go_num, by omega, hT7⟩
            · obtain rfl : k = n := by omega
              rw [List.take_of_length_le (by rw [hn.out]; exact Nat.le_refl _)] at hT
              obtain ⟨w6, hw6⟩ : ∃ w6 : World, w6 = wr := ⟨_, rfl⟩
              subst hw6
              have hp4l : (p3 ++ filL fs).length ≤ 2005 := by unfold filL; rw [List.length_append, List.length_map, hn.out]; omega
              have hp4 : sedL c ++ optL (ops4 c) ++ inpL c.inputs ++ filL c.files = p3 ++ filL fs := by rw [hp3.out, hfs.out]
              generalize p3 ++ filL fs = p4 at *
              replace hp4 := Lib.hid hp4
              obtain ⟨k0, k1, k2, k3, k4, k5, k6', k7, k8, k9, k10⟩ := hcl.out _ _ hT.out
              clear k0 k1 k2 k3 k4 k5 k6 k6' k8 k9 k10 hlt hrw hzi hzl hn hfs hp3 hk hp3l
              have htx := fun n hn wr (hb : Below w.heap.size w wr) => text_any n hn wr (hw0.out.below hb)
              have t1 := Lib.hid (htx _ z.out.cap)
              have t2 := Lib.hid (htx _ z.out.period)
              have t3 := Lib.hid (htx _ z.out.fuel)
              have n1 := num_len c.cap z.out.cap
              have n2 := num_len c.period z.out.period
              have n3 := num_len c.fuel z.out.fuel
              have u1 := Lib.hid (fun wr ls (h : TS w C ls wr) (hl : ls.length ≤ 100000) => put2 h [99, 97, 112, 97, 99, 105, 116, 121] (BM.numT c.cap) (by simp only [List.length_cons, List.length_nil]; omega) (by omega) wr.heap.size rfl)
              have u2 := Lib.hid (fun wr ls (h : TS w C ls wr) (hl : ls.length ≤ 100000) => put2 h [112, 101, 114, 105, 111, 100] (BM.numT c.period) (by simp only [List.length_cons, List.length_nil]; omega) (by omega) wr.heap.size rfl)
              have u3 := Lib.hid (fun wr ls (h : TS w C ls wr) (hl : ls.length ≤ 100000) => put2 h [102, 117, 101, 108] (BM.numT c.fuel) (by simp only [List.length_cons, List.length_nil]; omega) (by omega) wr.heap.size rfl)
              clear htx n1 n2 n3
              go_upto_region 22 with (first
                | (go_at_call 16; refine (t1.out _ hT.out.bel).mono ?_; rintro e w7 ⟨rfl, hb7⟩; have hT1 := Lib.hid (hT.out.below hb7))
                | (go_at_call 13; refine (u1.out _ _ hT1.out (by omega)).mono ?_; rintro e w8 ⟨rfl, hT2, _⟩; obtain ⟨_, _, _, _, _, _, _, _, k8, _, _⟩ := hcl.out _ _ hT2; replace hT2 := Lib.hid hT2))
              go_upto_region 23 with (first
                | (go_at_call 16; refine (t2.out _ hT2.out.bel).mono ?_; rintro e w9 ⟨rfl, hb9⟩; have hT3 := Lib.hid (hT2.out.below hb9))
                | (go_at_call 13; refine (u2.out _ _ hT3.out (by rw [List.length_append]; simp only [List.length_cons, List.length_nil]; omega)).mono ?_; rintro e w10 ⟨rfl, hT4, _⟩; obtain ⟨_, _, _, _, _, _, _, _, _, k9, _⟩ := hcl.out _ _ hT4; replace hT4 := Lib.hid hT4))
              go_upto_region 24 with (first
                | (go_at_call 16; refine (t3.out _ hT4.out.bel).mono ?_; rintro e w11 ⟨rfl, hb11⟩; have hT5 := Lib.hid (hT4.out.below hb11))
                | (go_at_call 13; refine (u3.out _ _ hT5.out (by rw [List.length_append, List.length_append]; simp only [List.length_cons, List.length_nil]; omega)).mono ?_; rintro e w12 ⟨rfl, hT6, _⟩; obtain ⟨_, _, _, _, _, _, _, _, _, _, k10⟩ := hcl.out _ _ hT6; replace hT6 := Lib.hid hT6))
              have hp5 : sedL c ++ optL (ops4 c) ++ inpL c.inputs ++ filL c.files ++ numL c = p4 ++ [[99, 97, 112, 97, 99, 105, 116, 121] ++ 32 :: BM.numT c.cap] ++ [[112, 101, 114, 105, 111, 100] ++ 32 :: BM.numT c.period] ++ [[102, 117, 101, 108] ++ 32 :: BM.numT c.fuel] := by rw [hp4.out]; unfold numL; simp [BM.capacityW, BM.periodW, BM.fuelW]
              obtain ⟨p5, hp5e⟩ : ∃ p5, p4 ++ [[99, 97, 112, 97, 99, 105, 116, 121] ++ 32 :: BM.numT c.cap] ++ [[112, 101, 114, 105, 111, 100] ++ 32 :: BM.numT c.period] ++ [[102, 117, 101, 108] ++ 32 :: BM.numT c.fuel] = p5 := ⟨_, rfl⟩
              have hp5l : p5.length ≤ 2008 := by rw [← hp5e]; simp only [List.length_append, List.length_cons, List.length_nil]; omega
              have hp5p : 0 < p5.length := by rw [← hp5e]; simp only [List.length_append, List.length_cons, List.length_nil]; omega
              rw [hp5e] at hp5 hT6
              have hT := hT6
              replace hp5 := Lib.hid hp5
              clear hp5e hp4 hT6 hT5 hT4 hT3 hT2 hT1 hb7 hb9 hb11 t1 t2 t3 u1 u2 u3 k7 k8 k9 hp4l
              have hrows := h.out.lin
              obtain ⟨ra, rc, hq1, _, hrw⟩ := hrows
              injection hq1 with hq1 _ hq2
              subst hq1 hq2
              replace hrw : TxtAt w _ c.lines := hrw
              replace hrw := Lib.hid hrw
              have hzl := z.out.lines
              have hzi := Lib.hid z.out.lin
              obtain ⟨xs, hxs⟩ : ∃ xs, c.lines = xs := ⟨_, rfl⟩
              obtain ⟨n, hn⟩ : ∃ n, xs.length = n := ⟨_, rfl⟩
              rw [hxs] at hrw hzl hzi k10
              rw [hn] at hzl k10
              replace hn := Lib.hid hn
              replace hxs := Lib.hid hxs
              go_wp2_with fail
              go_loopg [109] n (fun gh i wr => ∃ k : Nat, gh = n - k ∧ i = .int .i64 (k : Int) ∧ k ≤ n ∧ Hid (TS w C (p5 ++ doL (xs.take k)) wr))
              case atStart => exact ⟨0, rfl, rfl, by omega, Lib.hid (by simpa [doL] using hT.out)⟩
              case round =>
                clear hT
                obtain ⟨k, rfl, rfl, hk, hT⟩ := hrel
                by_cases hlt : k < n
                · have k1 : k < xs.length := by rw [hn.out]; exact hlt
                  obtain ⟨p, o, rfl, hpp, hr⟩ := hrw.out (by omega)
                  have e1 : wr.cell? ⟨p, o + k, none⟩ = some (strV xs[k]) := (hT.out.bel.cell (p := ⟨p, o + k, none⟩) hpp).trans (hr k k1)
                  have hib : (k : Int) < (n : Int) := by omega
                  have esn : doL (xs.take (k + 1)) = doL (xs.take k) ++ [BM.doW ++ 32 :: xs[k]] := by unfold doL; rw [take_snoc k1, List.map_append]; rfl
                  have hpl : (p5 ++ doL (xs.take k)).length ≤ 100000 := by unfold doL; simp only [List.length_append, List.length_map, List.length_take]; omega
                  have hxl := hzi.out xs[k] (List.getElem_mem k1)
                  have hop := put2 hT.out BM.doW xs[k] (by simp only [BM.doW, List.length_cons, List.length_nil]; omega) (by omega) wr.heap.size rfl
                  rw [List.append_assoc, ← esn] at hop
                  unfold strV at e1 hop
                  generalize (⟨xs[k].toArray⟩ : ByteArray) = x at *
                  simp only [BM.doW] at hop
                  replace hop := Lib.hid hop
                  clear hr esn hpl
                  go_wp2_with (go_at_call 13; refine hop.out.mono ?_; rintro e w5 ⟨rfl, hT5, _⟩; replace hT5 := Lib.hid hT5)
                  all_goals go_roundg (n - (k + 1))
                  case measure => omega
                  case rel => exact ⟨k + 1, rfl, by go_num, by omega, hT5⟩
                · obtain rfl : k = n := by omega
                  rw [List.take_of_length_le (by rw [hn.out]; exact Nat.le_refl _)] at hT
                  obtain ⟨w13, hw13⟩ : ∃ w13 : World, w13 = wr := ⟨_, rfl⟩
                  subst hw13
                  have hp6l : (p5 ++ doL xs).length ≤ 3100 := by unfold doL; rw [List.length_append, List.length_map, hn.out]; omega
                  have hp6p : 0 < (p5 ++ doL xs).length := by rw [List.length_append]; omega
                  have hp6 : BM.textL c = p5 ++ doL xs := by rw [textL_parts, hp5.out, hxs.out]
                  generalize p5 ++ doL xs = p6 at *
                  have hall := z.out.all
                  have hjt : Lib.join p6 [10] ++ [10] = BM.textS c := by unfold BM.textS; rw [hp6]; exact join_text p6 hp6p
                  have hjl : (Lib.join p6 [10]).length + 1 = (BM.textS c).length := by rw [← hjt]; simp
                  clear hp6 hlt hrw hzi hzl hn hxs hp5 hk hp5l hp5p k10
                  obtain ⟨v, hbk⟩ := hT.out.bk
                  obtain ⟨va, vc, rfl⟩ := own_slice hbk.row
                  have kl : w13.cell? ⟨w.heap.size + 1, 0, none⟩ = some (.slice va p6.length vc) := hbk.blk.cell 0
                  have hll := hbk.blk.lt
                  have hjn := Lib.hid (join_rows hbk.row hp6p (by omega) (by omega))
                  have e1 : (⟨(Lib.join p6 [10]).toArray⟩ : ByteArray) ++ ⟨#[10]⟩ = ⟨(BM.textS c).toArray⟩ := by rw [← hjt]; exact ba_add _ [10]
                  generalize hjj : Lib.join p6 [10] = J at *
                  have hsz : ¬ (9223372036854775807 : Nat) < J.length + 1 := by omega
                  obtain ⟨⟨x, nx, ex⟩, hx⟩ : ∃ R, BM.parseS (BM.textS c) = R := ⟨_, rfl⟩
                  have hcp := Lib.hid (fun W => parse_read (BM.textS c) (by omega) hx W)
                  obtain ⟨hsmall, hshort⟩ := parseS_grown (by omega) hx
                  have fx : Fits x := ⟨hsmall.sed, hsmall.inputs, hsmall.files, hsmall.lines, fun p hp => by have := hshort p hp; omega⟩
                  have fc' : Fits c := ⟨by have := z.out.sed; omega, by have := z.out.inputs; omega, by have := z.out.files; omega, by have := z.out.lines; omega, fun p hp => by have := (z.out.fil p hp).2; omega⟩
                  obtain ⟨S, hS⟩ : ∃ S, sameS x c = S := ⟨_, rfl⟩
                  have hsm := fun (sa1 ia1 fa1 la1 : Option Addr) (sc1 ic1 fc1 lc1 : Nat) (W : World) (h1 : CsAt W x (.slice sa1 x.sed.length sc1) (.slice ia1 x.inputs.length ic1) (.slice fa1 x.files.length fc1) (.slice la1 x.lines.length lc1)) (hb : Below w.heap.size w W) => booksame_any x c sa1 ia1 fa1 la1 _ _ _ _ sc1 ic1 fc1 lc1 _ _ _ _ W h1 (h.out.below hb) fx fc'
                  rw [hS] at hsm
                  replace hsm := Lib.hid hsm
                  have hfin : ∀ w' e, Below w.heap.size w w' → ((e = Ending.returned (.tuple #[strV (BM.textS c), .bool true]) ∧ ex = 0 ∧ S = true) ∨ (e = Ending.returned (.tuple #[strV [], .bool false]) ∧ ¬ (ex = 0 ∧ S = true))) → TextIs c w e w' := fun w' e hb h => ⟨hb, by rw [hx]; simp only; rw [hS]; exact h⟩
                  replace hfin := Lib.hid hfin
                  replace hx := Lib.hid hx
                  replace hS := Lib.hid hS
                  replace hjj := Lib.hid hjj
                  clear hbk hsmall hshort fx fc' hall hjt hjl hp6l hp6p
                  go_upto_region 31 with (first
                    | (go_at_call 17; refine hjn.out.mono ?_; rintro e w14 ⟨rfl, hb14⟩; have hT14 := Lib.hid (hT.out.below hb14))
                    | (go_at_call 8; refine (hcp.out _).mono ?_; rintro e w15 ⟨sa1, sc1, ia1, ic1, fa1, fc1, la1, lc1, rfl, hu1, hb15⟩; have hT15 := Lib.hid ((hT14.out.below hb15).below (bl_alloc (Below.refl _ _) (.cells #[.slice sa1 x.sed.length sc1, .bool x.quiet, .bool x.separate, .bool x.place, .bool x.extended, .slice ia1 x.inputs.length ic1, .slice fa1 x.files.length fc1, .int .i64 x.cap, .int .i64 x.period, .int .i64 x.fuel, .slice la1 x.lines.length lc1] 29))); have hu2 := Lib.hid (hu1.below (bl_alloc (Below.refl _ _) (.cells #[.slice sa1 x.sed.length sc1, .bool x.quiet, .bool x.separate, .bool x.place, .bool x.extended, .slice ia1 x.inputs.length ic1, .slice fa1 x.files.length fc1, .int .i64 x.cap, .int .i64 x.period, .int .i64 x.fuel, .slice la1 x.lines.length lc1] 29))); have hB16 := Lib.hid (Blk.new w15 29 [.slice sa1 x.sed.length sc1, .bool x.quiet, .bool x.separate, .bool x.place, .bool x.extended, .slice ia1 x.inputs.length ic1, .slice fa1 x.files.length fc1, .int .i64 x.cap, .int .i64 x.period, .int .i64 x.fuel, .slice la1 x.lines.length lc1]); clear hu1))
                  obtain ⟨W16, hW16⟩ : ∃ W16, w15.alloc (.cells #[.slice sa1 x.sed.length sc1, .bool x.quiet, .bool x.separate, .bool x.place, .bool x.extended, .slice ia1 x.inputs.length ic1, .slice fa1 x.files.length fc1, .int .i64 x.cap, .int .i64 x.period, .int .i64 x.fuel, .slice la1 x.lines.length lc1] 29) = W16 := ⟨_, rfl⟩
                  replace hT15 : Hid (TS w C p6 W16) := hW16 ▸ hT15
                  replace hu2 : Hid (CsAt W16 x (.slice sa1 x.sed.length sc1) (.slice ia1 x.inputs.length ic1) (.slice fa1 x.files.length fc1) (.slice la1 x.lines.length lc1)) := hW16 ▸ hu2
                  replace hB16 : Hid (Blk W16 w15.heap.size 29 [.slice sa1 x.sed.length sc1, .bool x.quiet, .bool x.separate, .bool x.place, .bool x.extended, .slice ia1 x.inputs.length ic1, .slice fa1 x.files.length fc1, .int .i64 x.cap, .int .i64 x.period, .int .i64 x.fuel, .slice la1 x.lines.length lc1]) := hW16 ▸ hB16
                  rw [hW16]
                  clear hW16
                  obtain ⟨k0, k1, k2, k3, k4, k5, k6, k7, k8, k9, k10⟩ := hcl.out _ _ hT15.out
                  obtain ⟨j0, j1, j2, j3, j4, j5, j6, j7, j8, j9, j10⟩ := cells11t hB16.out
                  have hbW := Lib.hid hT15.out.bel
                  have hsm2 := Lib.hid (hsm.out _ _ _ _ _ _ _ _ _ hu2.out hbW.out)
                  by_cases hex : ex = 0
                  · have q1 : (ex != 0) = false := by simpa using hex
                    replace hex := Lib.hid hex
                    cases S with
                    | true =>
                      go_wp2_with (go_at_call 18; refine hsm2.out.mono ?_; rintro e w17 ⟨rfl, hb17⟩)
                      all_goals go_ret2
                      all_goals exact hfin.out _ _ (bl_trans hbW.out hb17) (.inl ⟨rfl, hex.out, by first | rfl | trivial⟩)
                    | false =>
                      go_wp2_with (go_at_call 18; refine hsm2.out.mono ?_; rintro e w17 ⟨rfl, hb17⟩)
                      all_goals go_ret2
                      all_goals exact hfin.out _ _ (bl_trans hbW.out hb17) (.inr ⟨rfl, fun h => by cases h.2⟩)
                  · have q1 : (ex != 0) = true := by simpa using hex
                    replace hex := Lib.hid hex
                    clear hsm2
                    go_wp2_with fail
                    all_goals go_ret2
                    all_goals exact hfin.out _ _ hbW.out (.inr ⟨rfl, fun h => hex.out h.1⟩)
end Go.Proofs.YtaginadnaajleaaDoor
