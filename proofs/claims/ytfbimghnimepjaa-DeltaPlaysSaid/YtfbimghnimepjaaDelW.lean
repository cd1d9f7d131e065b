/-
  The walk of the law DeltaBetween, of chapter 23.
  Conditions: none but that what comes in is data of its type.
-/
import Derived.Test.YtfbimghnimepjaaDelR
import Derived.Test.YtfbimghnimepjaaDelL
namespace Go.Proofs.Ytfbimghnimepjaa
open Go.RowKit
set_option linter.unusedVariables false
set_option linter.unusedSimpArgs false
theorem betw_small : ∀ (B i : Nat) (a b : List (List UInt8)), (∀ x ∈ a, x.length ≤ B) → (∀ y ∈ b, y.length ≤ B) → ∀ c ∈ DM.betw i a b, c.old.length ≤ B ∧ c.new.length ≤ B := by
  intro B i a
  induction a generalizing i with
  | nil => intro b _ _ c hc; cases b <;> simp [DM.betw] at hc
  | cons x a ih =>
    intro b ha hb c hc
    cases b with
    | nil => simp [DM.betw] at hc
    | cons y b =>
      have ih' := ih (i + 1) b (fun z hz => ha z (by simp [hz])) (fun z hz => hb z (by simp [hz]))
      simp only [DM.betw] at hc
      split at hc
      · exact ih' c hc
      · rcases List.mem_cons.1 hc with rfl | hc
        · have h1 := ha x (by simp)
          have h2 := hb y (by simp)
          simp only [DM.one, List.length_take, List.length_drop]
          omega
        · exact ih' c hc
theorem lens_all {B : Nat} {xs : List (List UInt8)} (h : ∀ i (h : i < xs.length), xs[i].length ≤ B) : ∀ x ∈ xs, x.length ≤ B := fun x hx => by
  obtain ⟨i, hi, rfl⟩ := List.mem_iff_getElem.1 hx; exact h i hi
theorem chB_refl (xs : List DM.Chg) : chB xs xs = true := chB_iff.2 rfl
theorem Betwn.get {w w' : World} {e : Ending} {ds : List DM.Chg} (h : Betwn (some ds) w e w') : ∃ a c, e = .returned (.tuple #[.slice a ds.length c, .bool true]) ∧ ChAt (fun _ => True) w' a ds ∧ Below w.heap.size w w' := h
set_option maxHeartbeats 4000000 in
set_option maxRecDepth 100000 in
theorem deltaBetween_main (aa ba : Option Addr) (ac bc : Nat) (xs ys : List (List UInt8)) (w : World) (hxl : xs.length ≤ 9223372036854775807) (hyl : ys.length ≤ 9223372036854775807) (hx1 : ∀ i (h : i < xs.length), xs[i].length ≤ 9223372036854775807)
    (hy1 : ∀ i (h : i < ys.length), ys[i].length ≤ 9223372036854775807) (h1 : TxAt (fun _ => True) false w aa xs) (h2 : TxAt (fun _ => True) false w ba ys) :
    Calls Try.prog 11 #[.slice aa xs.length ac, .slice ba ys.length bc] w fun e w' => e = .returned (.bool true) ∧ Below w.heap.size w w' := by
  have hga := great_any aa xs ac w hxl hx1 h1
  have hgb := great_any ba ys bc w hyl hy1 h2
  by_cases hg : greatB xs = true
  · rw [hg] at hga
    replace hga := Lib.hid hga
    clear hg h1 h2 hx1 hy1 hgb
    go_enter Try.func11, Try.ntmps11
    go_wp2_with (first | (go_at_call 42; refine hga.out.mono ?_; rintro e w5 ⟨rfl, rfl⟩) | (go_at_call 43; refine (awake23_any _).mono ?_; rintro e w5 ⟨rfl, hb5⟩))
    all_goals go_ret
    all_goals exact ⟨rfl, hb5⟩
  · rw [Bool.not_eq_true] at hg
    rw [hg] at hga
    obtain ⟨hn, hx⟩ := not_great hg
    replace hga := Lib.hid hga
    clear hg hx1
    by_cases hg2 : greatB ys = true
    · rw [hg2] at hgb
      replace hgb := Lib.hid hgb
      clear hg2 h1 h2 hy1
      go_enter Try.func11, Try.ntmps11
      go_wp2_with (first | (go_at_call 42; ((with_reducible refine hga.out.mono ?_); rintro e w5 ⟨rfl, rfl⟩)) | (go_at_call 42; ((with_reducible refine hgb.out.mono ?_); rintro e w5 ⟨rfl, rfl⟩)) | (go_at_call 43; refine (awake23_any _).mono ?_; rintro e w5 ⟨rfl, hb5⟩))
      all_goals go_ret
      all_goals exact ⟨rfl, hb5⟩
    · rw [Bool.not_eq_true] at hg2
      rw [hg2] at hgb
      obtain ⟨hm, hy⟩ := not_great hg2
      replace hgb := Lib.hid hgb
      clear hg2 hy1
      by_cases hl : xs.length = ys.length
      · have hl1 : ((xs.length : Int) != (ys.length : Int)) = false := by simp [hl]
        have hd20 : (DM.betw 0 xs ys).length ≤ 20 := by have := betw_len 0 xs ys; omega
        have hds : ∀ i (h : i < (DM.betw 0 xs ys).length), (DM.betw 0 xs ys)[i].old.length ≤ 200 ∧ (DM.betw 0 xs ys)[i].new.length ≤ 200 := fun i h => betw_small 200 0 xs ys (lens_all hx) (lens_all hy) _ (List.getElem_mem h)
        have hbt := Lib.hid (between_yes aa ba ac bc xs ys w hl (by omega) (fun i h => by have := hx i h; omega) (fun i h => by have := hy i h; omega) h1 h2)
        have hrb := Lib.hid (fun (w5 : World) (hb : Below w.heap.size w w5) => rbetween_any aa ba ac bc xs ys w5 hl (by omega) (fun i h => by have := hx i h; omega) (fun i h => by have := hy i h; omega) (h1.below hb) (h2.below hb))
        have hap := DM.apply_betw xs ys [] hl
        have hun := DM.undo_betw xs ys hl
        simp only [List.length_nil, List.nil_append] at hap
        generalize DM.betw 0 xs ys = ds at *
        have hA := Lib.hid (fun (w6 : World) (da : Option Addr) (dc : Nat) (hch : ChAt (fun _ => True) w6 da ds) (ht : TxAt (fun _ => True) false w6 aa xs) => (apply_any da aa ds xs dc ac w6 hd20 (fun i h => by have := hds i h; omega) hn (fun i h => by have := hx i h; omega) hch ht).mono (fun e w' h => Applied.get hap h))
        have hU := Lib.hid (fun (w6 : World) (da : Option Addr) (dc : Nat) (hch : ChAt (fun _ => True) w6 da ds) (ht : TxAt (fun _ => True) false w6 ba ys) => (undo_any da ba ds ys dc bc w6 hd20 hds (by omega) (fun i h => by have := hy i h; omega) hch ht).mono (fun e w' h => Applied.get hun h))
        have hS := Lib.hid (fun (w8 : World) (da ra : Option Addr) (dc rc : Nat) (hch : ChAt (fun _ => True) w8 da ds) (hrh : ChAt (fun _ => True) w8 ra ds) => same23_any da ra ds ds dc rc w8 (by omega) (by omega) (fun i h => by have := hds i h; omega) (fun i h => by have := hds i h; omega) hch hrh)
        have hT1 := Lib.hid (fun (w8 : World) (ya : Option Addr) (yc : Nat) (ht : TxAt (fun _ => True) false w8 ya ys) (ht2 : TxAt (fun _ => True) false w8 ba ys) => texts_any ya ba ys ys yc bc w8 (by omega) (by omega) (fun i h => by have := hy i h; omega) (fun i h => by have := hy i h; omega) ht ht2)
        have hT2 := Lib.hid (fun (w8 : World) (ya : Option Addr) (yc : Nat) (ht : TxAt (fun _ => True) false w8 ya xs) (ht2 : TxAt (fun _ => True) false w8 aa xs) => texts_any ya aa xs xs yc ac w8 (by omega) (by omega) (fun i h => by have := hx i h; omega) (fun i h => by have := hx i h; omega) ht ht2)
        rw [txB_refl] at hT1 hT2
        rw [chB_refl] at hS
        replace h1 := Lib.hid h1
        replace h2 := Lib.hid h2
        replace hl := Lib.hid hl
        clear hap hun hds hx hy
        go_enter Try.func11, Try.ntmps11
        go_wp2_with (first | (go_at_call 42; ((with_reducible refine hga.out.mono ?_); rintro e w5 ⟨rfl, rfl⟩)) | (go_at_call 42; ((with_reducible refine hgb.out.mono ?_); rintro e w5 ⟨rfl, rfl⟩)) | (go_at_call 44; refine hbt.out.mono ?_; rintro e w5 h5; replace h5 := h5.get; obtain ⟨da, dc, rfl, hch5, hb5⟩ := h5; replace hch5 := Lib.hid hch5))
        go_wp2_with (go_at_call 46; refine (hrb.out w5 hb5).mono ?_; rintro e w6 ⟨ra, rc, rfl, hrh6, hb6⟩; replace hrh6 := Lib.hid hrh6)
        go_wp2_with (go_at_call 45; refine (hS.out w6 da ra dc rc (hch5.out.below hb6) hrh6.out).mono ?_; rintro e w7 ⟨rfl, m7, rfl⟩)
        have hb6' : Below w.heap.size w (w6.drewN m7) := bl_drewN (bl_trans hb5 hb6) _
        have hb57 : Below w5.heap.size w5 (w6.drewN m7) := bl_drewN hb6 _
        obtain ⟨w7, hw7⟩ : ∃ w7, w6.drewN m7 = w7 := ⟨_, rfl⟩
        rw [hw7] at hb6' hb57 ⊢
        clear hw7
        go_wp2_with (go_at_call 47; refine (hA.out w7 da dc (hch5.out.below hb57) (h1.out.below hb6')).mono ?_; rintro e w8 ⟨xa, xc, rfl, ho8, hb8⟩)
        replace ho8 := Lib.hid ho8
        go_wp2_with (go_at_call 48; refine (hU.out w8 da dc ((hch5.out.below hb57).below hb8) (h2.out.below (bl_trans hb6' hb8))).mono ?_; rintro e w9 ⟨ya, yc, rfl, ho9, hb9⟩)
        replace ho9 := Lib.hid ho9
        have hb09 : Below w.heap.size w w9 := bl_trans (bl_trans hb6' hb8) hb9
        go_wp2_with (first | (go_at_call 49; ((with_reducible refine (hT1.out w9 xa xc (ho8.out.tx.any.below hb9) (h2.out.below hb09)).mono ?_); rintro e w10 ⟨rfl, m10, rfl⟩)) | (go_at_call 49; ((with_reducible refine (hT2.out (w9.drewN m10) ya yc (ho9.out.tx.any.below (bl_drewN (Below.refl _ _) _)) (h1.out.below (bl_drewN hb09 _))).mono ?_); rintro e w10 ⟨rfl, m11, rfl⟩)) | (go_at_call 43; refine (awake23_any _).mono ?_; rintro e w11 ⟨rfl, hb11⟩))
        all_goals go_ret
        all_goals exact ⟨rfl, bl_trans (bl_drewN hb09 _) hb11⟩
      · have hl1 : ((xs.length : Int) != (ys.length : Int)) = true := by simp only [bne_iff_ne, ne_eq]; omega
        have hbt := Lib.hid (between_no aa ba xs.length ys.length ac bc w hl)
        clear h1 h2 hx hy
        replace hl := Lib.hid hl
        go_enter Try.func11, Try.ntmps11
        go_wp2_with (first | (go_at_call 42; ((with_reducible refine hga.out.mono ?_); rintro e w5 ⟨rfl, rfl⟩)) | (go_at_call 42; ((with_reducible refine hgb.out.mono ?_); rintro e w5 ⟨rfl, rfl⟩)) | (go_at_call 44; refine hbt.out.mono ?_; rintro e w5 ⟨rfl, rfl⟩) | (go_at_call 43; refine (awake23_any _).mono ?_; rintro e w11 ⟨rfl, hb11⟩))
        all_goals go_ret
        all_goals exact ⟨rfl, hb11⟩
theorem deltaBetween_walk (W : World) (a0 : Option Addr) (l0 c0 : Nat) (x0 : List (List UInt8)) (r0 : (rSl (rSl rByte)).ok (Sub.all W) [.slice a0 l0 c0] x0) (a1 : Option Addr) (l1 c1 : Nat) (x1 : List (List UInt8)) (r1 : (rSl (rSl rByte)).ok (Sub.all W) [.slice a1 l1 c1] x1) :
    Calls Try.prog 11 #[.slice a0 l0 c0, .slice a1 l1 c1] W fun e w' => e = .returned (.bool true) ∧ Below W.heap.size W w' := by
  obtain ⟨rfl, h1, h2, h3⟩ := openTx r0
  obtain ⟨rfl, k1, k2, k3⟩ := openTx r1
  exact deltaBetween_main a0 a1 c0 c1 _ x1 W h1 k1 h3 k3 h2 k2
end Go.Proofs.Ytfbimghnimepjaa
