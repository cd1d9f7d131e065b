/-
  The walk of the law DigitBack, of chapter 01: what is written of a number is read as it.
  Conditions: the table of powers of ten lies as laid ('Pow').
-/
import Derived.Test.YtjfpepinmbbnbaaDoorBack1
namespace Go.Proofs.YtjfpepinmbbnbaaDoor
open Go.RowKit
set_option linter.unusedVariables false
theorem cells_row {w : World} {base k : Nat} {v : Value} {xs : List UInt8} (h : w.ownsRow base 5 1 v k (xs.map bv)) (hk : 0 < k) :
    ∃ g cap, v = .slice (some ⟨g, 0, none⟩) xs.length cap ∧ k = xs.length ∧ ByteRow w g 0 xs := by
  have hk2 : k = xs.length := by have := h.1; simpa using this.symm
  rcases own_cells h with ⟨c, _, h0⟩ | ⟨g, cap, rfl, hcap, hg, hc⟩
  · omega
  · subst hk2
    exact ⟨g, cap, rfl, rfl, fun i hi => hc i _ (by simp [bv, hi])⟩
theorem numS_txt (f r : List UInt8) (u : Nat) (most : Int) (hr : ∀ c, r.head? = some c → dig c = false) :
    numS (f ++ (txt (u : Int)).data.toList ++ r) f.length most = if most < u then (0, 0, 3) else ((u : Int), (f.length : Int) + ((txt (u : Int)).size : Int), 0) := by
  rw [txt_nat]
  have h := numS_back f r u most hr
  have e : (⟨(Lib.decDigits u).toArray⟩ : ByteArray).size = (Lib.decDigits u).length := by show (Lib.decDigits u).toArray.size = _; simp
  rw [e]
  simpa using h
set_option maxHeartbeats 4000000 in
set_option maxRecDepth 100000 in
theorem back_main (u : Nat) (hu : (u : Int) ≤ 9223372036854775807) (fa ra : Option Addr) (fc rc : Nat) (f r : List UInt8) (hf : f.length ≤ 9) (hr9 : r.length ≤ 9) (hr : ∀ c, r.head? = some c → dig c = false) (W : World) (hp : Pow W)
    (hsf : Src W fa f) (hsr : Src W ra r) (hrow : 0 < r.length → ∃ p o, ra = some ⟨p, o, none⟩ ∧ ByteRow W p o r) :
    Calls Tryd.prog 4 #[.int .i64 (u : Int), .slice fa f.length fc, .slice ra r.length rc] W fun e w' => e = .returned (.bool true) ∧ Below W.heap.size W w' := by
  have ha := Lib.hid (fun w hb => awake01 w (hp.below (w' := w) hb))
  have htx := Lib.hid (text_any u (by omega) W hp)
  have hrt := Lib.hid (rtext_any u (by omega))
  have hsz := txt_size u (by omega)
  have n1 := numS_txt f r u u hr
  have n2 := numS_txt f r u ((u : Int) - 1) hr
  rw [if_neg (by omega)] at n1
  rw [if_pos (by omega)] at n2
  have hs0 : 0 < (txt (u : Int)).size := by
    rw [txt_nat]
    have := List.length_pos_iff.2 (dd_ne u)
    show 0 < (Lib.decDigits u).toArray.size
    simpa using this
  have hlen : (f ++ (txt (u : Int)).data.toList ++ r).length = f.length + (txt (u : Int)).size + r.length := by rw [List.length_append, List.length_append, Array.length_toList]; rfl
  have hsc : Lib.strCells (txt (u : Int)) = (txt (u : Int)).data.toList.map bv := rfl
  generalize txt (u : Int) = s at *
  have nn := fun (g cap : Nat) (w : World) (hb : ByteRow w g 0 (f ++ s.data.toList ++ r)) => num_all (some ⟨g, 0, none⟩) cap _ f.length u w (by rw [hlen]; omega) (by omega) (fun _ => ⟨g, 0, rfl, hb⟩)
  have mm := fun (g cap : Nat) (w : World) (hb : ByteRow w g 0 (f ++ s.data.toList ++ r)) => num_all (some ⟨g, 0, none⟩) cap _ f.length ((u : Int) - 1) w (by rw [hlen]; omega) (by omega) (fun _ => ⟨g, 0, rfl, hb⟩)
  simp only [n1, hlen] at nn
  simp only [n2, hlen] at mm
  replace nn := Lib.hid nn
  replace mm := Lib.hid mm
  replace hsf := Lib.hid hsf
  replace hsr := Lib.hid hsr
  replace hrow := Lib.hid hrow
  replace hlen := Lib.hid hlen
  replace hsc := Lib.hid hsc
  obtain ⟨i0, hi, hz0, hz1, hz2⟩ := info_parts info5_
  clear n1 n2 hp
  have hfirst : (r.length = 0) ∨ ∃ (c : UInt8) (p o : Nat), 0 < r.length ∧ ra = some ⟨p, o, none⟩ ∧ p < W.heap.size ∧ W.cell? ⟨p, o, none⟩ = some (.int .u8 (c.toNat : Int)) ∧ ((c.toNat : Int) < 48 ∨ 57 < (c.toNat : Int)) := by
    cases r with
    | nil => exact .inl rfl
    | cons c r =>
      obtain ⟨p, o, h1, h2⟩ := hrow.out (by simp)
      have h3 := h2 0 (by simp)
      have h4 := hr c rfl
      simp [dig] at h4
      exact .inr ⟨c, p, o, by simp, h1, World.block_lt_of_cell? W ⟨p, o, none⟩ (by simpa using h3), by simpa using h3, by omega⟩
  clear hr hrow
  replace hfirst := Lib.hid hfirst
  go_enter Tryd.func4, Tryd.ntmps4
  go_wp2_with fail
  refine htx.out.mono ?_
  rintro e w1 ⟨rfl, hb1⟩
  go_wp2_with fail
  refine (hrt.out _).mono ?_
  rintro e w2 ⟨rfl, hb2⟩
  have hB2 := bl_trans hb1 hb2
  clear htx hrt hb1 hb2
  have hsf2 := Lib.hid (hsf.out.below hB2)
  have hsr2 := Lib.hid (hsr.out.below hB2)
  have fin : ∀ (v : Value) (w3 : World) (k : Nat), w3.ownsRow w2.heap.size 5 1 v k ((f.map bv ++ Lib.strCells s) ++ r.map bv) → ∃ g cap, v = .slice (some ⟨g, 0, none⟩) (f.length + s.size + r.length) cap ∧ ByteRow w3 g 0 (f ++ s.data.toList ++ r) := fun v w3 k h => by
    rw [hsc.out, ← List.map_append, ← List.map_append] at h
    have hk : k = (f ++ s.data.toList ++ r).length := by have := h.1; simpa using this.symm
    obtain ⟨g, cap, h1, h2, h3⟩ := cells_row h (by rw [hk, hlen.out]; omega)
    exact ⟨g, cap, by rw [h1, hlen.out], h3⟩
  replace fin := Lib.hid fin
  rcases hfirst.out with h0 | ⟨c, p, o, h0, rfl, hpW, hc, hdc⟩
  · obtain rfl : r = [] := List.length_eq_zero_iff.1 h0
    clear hfirst h0
    replace nn := nn.out
    replace mm := mm.out
    simp only [List.length_nil, Nat.add_zero] at nn mm
    replace nn := Lib.hid nn
    replace mm := Lib.hid mm
    go_wp2_with fail
    refine (copy_any fa fc f _ (by omega) hsf2.out).mono ?_
    rintro e w3 ⟨v3, rfl, hown3, hb3⟩
    have hsr3 := Lib.hid (hsr2.out.below hb3)
    replace hown3 := Lib.hid hown3
    have hsz3 := hb3.size
    have z63 : f.length + s.size ≤ maxLen := by unfold maxLen; omega
    have z47 : f.length + s.size ≤ 140737488355328 := by omega
    have z9 : f.length + s.size + ([] : List UInt8).length ≤ 1000000 := by first | omega | (simp; omega)
    go_wp2_with (first
      | (at_builtin; refine Lib.wpList_append_own_string _ rfl (.tmp 58) (.tmp 59) 22 9 rfl w2.heap.size 5 i0 Tryd.underlying22 Tryd.underlying9 hi hz0 hz1 hz2 _ _ _ rfl hown3.out s rfl z63 z47 hsz3 ?_; intro v4 w4 hown4 hgrow4 _; have hb4 := hb3.grown hgrow4 hsz3 (fun j hj => (hown3.out.lt j hj).1); have hsr4 := Lib.hid (hsr2.out.below hb4); replace hown4 := Lib.hid hown4)
      | (at_builtin; refine wpList_append_src rfl (.tmp 60) (.tmp 61) 22 rfl w2.heap.size 5 i0 (.int .u8 0) Tryd.underlying22 hi hz0 hz1 hz2 rfl _ _ _ rfl hown4.out ra rc [] rfl hsr4.out z9 hb4.size ?_; intro v5 w5 hown5 hgrow5; have hb5 := hb4.grown hgrow5 hb4.size (fun j hj => (hown4.out.lt j hj).1); obtain ⟨g, cap, rfl, hrow5⟩ := fin.out v5 w5 _ hown5; replace hrow5 := Lib.hid hrow5; clear hown5 hown4 hsr4)
      | (go_at_call 14; (first | with_reducible refine (nn.out g cap _ hrow5.out).mono ?_ | with_reducible refine (mm.out g cap _ hrow5.out).mono ?_); rintro e w6 ⟨rfl, rfl⟩)
      | (go_at_call 13; refine (ha.out _ (bl_trans hB2 hb5)).mono ?_; rintro e w7 ⟨rfl, hb7⟩))
    all_goals go_ret
    all_goals exact ⟨rfl, bl_trans (bl_trans hB2 hb5) hb7⟩
  · clear hfirst
    have c2 := (hB2.cell (p := ⟨p, o, none⟩) hpW).trans hc
    clear hc
    rcases hdc with hdc | hdc
    all_goals (
      go_wp2_with fail
      refine (copy_any fa fc f _ (by omega) hsf2.out).mono ?_
      rintro e w3 ⟨v3, rfl, hown3, hb3⟩
      have hsr3 := Lib.hid (hsr2.out.below hb3)
      replace hown3 := Lib.hid hown3
      have hsz3 := hb3.size
      have z63 : f.length + s.size ≤ maxLen := by unfold maxLen; omega
      have z47 : f.length + s.size ≤ 140737488355328 := by omega
      have z9 : f.length + s.size + (r : List UInt8).length ≤ 1000000 := by first | omega | (simp; omega)
      go_wp2_with (first
        | (at_builtin; refine Lib.wpList_append_own_string _ rfl (.tmp 58) (.tmp 59) 22 9 rfl w2.heap.size 5 i0 Tryd.underlying22 Tryd.underlying9 hi hz0 hz1 hz2 _ _ _ rfl hown3.out s rfl z63 z47 hsz3 ?_; intro v4 w4 hown4 hgrow4 _; have hb4 := hb3.grown hgrow4 hsz3 (fun j hj => (hown3.out.lt j hj).1); have hsr4 := Lib.hid (hsr2.out.below hb4); replace hown4 := Lib.hid hown4)
        | (at_builtin; refine wpList_append_src rfl (.tmp 60) (.tmp 61) 22 rfl w2.heap.size 5 i0 (.int .u8 0) Tryd.underlying22 hi hz0 hz1 hz2 rfl _ _ _ rfl hown4.out (some ⟨p, o, none⟩) rc r rfl hsr4.out z9 hb4.size ?_; intro v5 w5 hown5 hgrow5; have hb5 := hb4.grown hgrow5 hb4.size (fun j hj => (hown4.out.lt j hj).1); obtain ⟨g, cap, rfl, hrow5⟩ := fin.out v5 w5 _ hown5; replace hrow5 := Lib.hid hrow5; clear hown5 hown4 hsr4)
        | (go_at_call 14; (first | with_reducible refine (nn.out g cap _ hrow5.out).mono ?_ | with_reducible refine (mm.out g cap _ hrow5.out).mono ?_); rintro e w6 ⟨rfl, rfl⟩)
        | (go_at_call 13; refine (ha.out _ (bl_trans hB2 hb5)).mono ?_; rintro e w7 ⟨rfl, hb7⟩))
      all_goals go_ret
      all_goals exact ⟨rfl, bl_trans (bl_trans hB2 hb5) hb7⟩)
set_option maxHeartbeats 2000000 in
theorem back_neg (n : Int) (hn : -9223372036854775808 ≤ n ∧ n < 0) (fa ra : Option Addr) (fc rc fl rl : Nat) (hf : fl ≤ 9) (hr9 : rl ≤ 9) (W : World) (hp : Pow W) :
    Calls Tryd.prog 4 #[.int .i64 n, .slice fa fl fc, .slice ra rl rc] W fun e w' => e = .returned (.bool true) ∧ Below W.heap.size W w' := by
  have ha := Lib.hid (fun w hb => awake01 w (hp.below (w' := w) hb))
  have htx := Lib.hid (text_any n (by omega) W hp)
  have hrt := Lib.hid (rtext_any n (by omega))
  have hn0 := hn.2
  clear hp
  generalize txt n = s at *
  go_enter Tryd.func4, Tryd.ntmps4
  go_wp2_with fail
  refine htx.out.mono ?_
  rintro e w1 ⟨rfl, hb1⟩
  go_wp2_with fail
  refine (hrt.out _).mono ?_
  rintro e w2 ⟨rfl, hb2⟩
  go_wp2_with fail
  refine (hrt.out _).mono ?_
  rintro e w3 ⟨rfl, hb3⟩
  have hB3 := bl_trans (bl_trans hb1 hb2) hb3
  go_wp2_with (go_at_call 13; refine (ha.out _ hB3).mono ?_; rintro e w7 ⟨rfl, hb7⟩)
  all_goals go_ret
  all_goals exact ⟨rfl, bl_trans hB3 hb7⟩
set_option maxHeartbeats 2000000 in
theorem back_great (n : Int) (fa ra : Option Addr) (fc rc fl rl : Nat) (hg : 9 < fl ∨ (fl ≤ 9 ∧ 9 < rl)) (W : World) (hp : Pow W) :
    Calls Tryd.prog 4 #[.int .i64 n, .slice fa fl fc, .slice ra rl rc] W fun e w' => e = .returned (.bool true) ∧ Below W.heap.size W w' := by
  have ha := Lib.hid (awake01 W hp)
  clear hp
  rcases hg with hg | ⟨hg, hg'⟩
  all_goals go_enter Tryd.func4, Tryd.ntmps4
  all_goals go_wp2_with (go_at_call 13; refine ha.out.mono ?_; rintro e w7 ⟨rfl, hb7⟩)
  all_goals go_ret
  all_goals exact ⟨rfl, hb7⟩
set_option maxHeartbeats 2000000 in
theorem back_digit (n : Int) (hn : 0 ≤ n ∧ n ≤ 9223372036854775807) (fa : Option Addr) (p o : Nat) (fc rc fl rl : Nat) (hf : fl ≤ 9) (hr9 : 0 < rl ∧ rl ≤ 9) (c : Int) (hc : 48 ≤ c ∧ c ≤ 57) (W : World) (hp : Pow W) (hpW : p < W.heap.size) (h0 : W.cell? ⟨p, o, none⟩ = some (.int .u8 c)) :
    Calls Tryd.prog 4 #[.int .i64 n, .slice fa fl fc, .slice (some ⟨p, o, none⟩) rl rc] W fun e w' => e = .returned (.bool true) ∧ Below W.heap.size W w' := by
  have ha := Lib.hid (fun w hb => awake01 w (hp.below (w' := w) hb))
  have htx := Lib.hid (text_any n (by omega) W hp)
  have hrt := Lib.hid (rtext_any n (by omega))
  have hn0 := hn.1
  clear hp
  generalize txt n = s at *
  go_enter Tryd.func4, Tryd.ntmps4
  go_wp2_with fail
  refine htx.out.mono ?_
  rintro e w1 ⟨rfl, hb1⟩
  go_wp2_with fail
  refine (hrt.out _).mono ?_
  rintro e w2 ⟨rfl, hb2⟩
  have hB2 := bl_trans hb1 hb2
  have c2 := (hB2.cell (p := ⟨p, o, none⟩) hpW).trans h0
  go_wp2_with (go_at_call 13; refine (ha.out _ hB2).mono ?_; rintro e w7 ⟨rfl, hb7⟩)
  all_goals go_ret
  all_goals exact ⟨rfl, bl_trans hB2 hb7⟩
theorem digitBack_walk (W : World) (hp : Pow W) (n : Int) (wn : (Lit.int .i64 n).wf = true) (fa : Option Addr) (fl fc : Nat) (f : List UInt8) (hf : (rSl rByte).ok (Sub.all W) [.slice fa fl fc] f) (ra : Option Addr) (rl rc : Nat) (r : List UInt8) (hr : (rSl rByte).ok (Sub.all W) [.slice ra rl rc] r) :
    Calls Tryd.prog 4 #[.int .i64 n, .slice fa fl fc, .slice ra rl rc] W fun e w' => e = .returned (.bool true) ∧ Below W.heap.size W w' := by
  have hn : -9223372036854775808 ≤ n ∧ n ≤ 9223372036854775807 := by simp [Lit.wf, IntKind.min, IntKind.max, IntKind.signed, IntKind.bits] at wn; omega
  obtain ⟨fa', fc', ef, _, _, hrowf⟩ := hf
  obtain ⟨rfl, rfl, rfl⟩ : fa = fa' ∧ fl = f.length ∧ fc = fc' := by simpa using ef
  obtain ⟨ra', rc', er, _, _, hrowr⟩ := hr
  obtain ⟨rfl, rfl, rfl⟩ : ra = ra' ∧ rl = r.length ∧ rc = rc' := by simpa using er
  have hbf : 0 < f.length → ∃ p o, fa = some ⟨p, o, none⟩ ∧ ByteRow W p o f := fun h0 => by
    obtain ⟨b, o, h1, h2⟩ := hrowf h0
    exact ⟨b, o, h1, h2.bytes (Sub.all_in W)⟩
  have hbr : 0 < r.length → ∃ p o, ra = some ⟨p, o, none⟩ ∧ ByteRow W p o r := fun h0 => by
    obtain ⟨b, o, h1, h2⟩ := hrowr h0
    exact ⟨b, o, h1, h2.bytes (Sub.all_in W)⟩
  by_cases h9 : 9 < f.length ∨ (f.length ≤ 9 ∧ 9 < r.length)
  · exact back_great n fa ra fc rc _ _ h9 W hp
  by_cases h0 : n < 0
  · exact back_neg n ⟨hn.1, h0⟩ fa ra fc rc _ _ (by omega) (by omega) W hp
  by_cases hd : ∃ c, r.head? = some c ∧ dig c = true
  · obtain ⟨c, hc, hdc⟩ := hd
    cases r with
    | nil => simp at hc
    | cons c' r =>
      obtain rfl : c' = c := by simpa using hc
      obtain ⟨p, o, rfl, h2⟩ := hbr (by simp)
      have h3 := h2 0 (by simp)
      simp [dig] at hdc
      exact back_digit n (by omega) fa p o fc rc _ _ (by omega) ⟨by simp, by omega⟩ (c'.toNat : Int) (by omega) W hp (World.block_lt_of_cell? W ⟨p, o, none⟩ (by simpa using h3)) (by simpa using h3)
  · obtain ⟨u, rfl⟩ : ∃ u : Nat, n = u := ⟨n.toNat, by omega⟩
    exact back_main u hn.2 fa ra fc rc f r (by omega) (by omega) (fun c hc => by
      cases hdc : dig c with
      | false => rfl
      | true => exact absurd ⟨c, hc, hdc⟩ hd) W hp (Src.of hbf) (Src.of hbr) hbr
end Go.Proofs.YtjfpepinmbbnbaaDoor
