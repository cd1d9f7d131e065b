/-
  The contract of Between, of chapter 23.
  Conditions: as each theorem states them.
-/
import Derived.Test.YtfbimghnimepjaaDelO
namespace Go.Proofs.Ytfbimghnimepjaa
open Go.RowKit
set_option linter.unusedVariables false
set_option linter.unusedSimpArgs false
attribute [local go_sem ↓] run_cut_h run_cut_l run_cut_lh
theorem wf64 {n : Int} (h0 : 0 ≤ n) (h1 : n ≤ 1000000) : (Lit.int .i64 n).wf = true := by
  simp [Lit.wf, IntKind.min, IntKind.max, IntKind.signed, IntKind.bits]; omega
/-- what Between's answer says of its memory -/
def Betwn (ds : Option (List DM.Chg)) (w : World) (e : Ending) (w' : World) : Prop :=
  match ds with
  | none => e = .returned (.tuple #[.slice none 0 0, .bool false]) ∧ Below w.heap.size w w'
  | some ds => ∃ a c, e = .returned (.tuple #[.slice a ds.length c, .bool true]) ∧ ChAt (fun _ => True) w' a ds ∧ Below w.heap.size w w'
theorem Betwn.no {w w' : World} {e : Ending} (h : e = .returned (.tuple #[.slice none 0 0, .bool false])) (hb : Below w.heap.size w w') : Betwn none w e w' := ⟨h, hb⟩
theorem Betwn.yes {w w' : World} {e : Ending} {ds : List DM.Chg} {n c : Nat} {a : Option Addr} (hn : n = ds.length) (h : e = .returned (.tuple #[.slice a n c, .bool true])) (ho : ChAt (fun _ => True) w' a ds) (hb : Below w.heap.size w w') : Betwn (some ds) w e w' := by
  subst hn; exact ⟨a, c, h, ho, hb⟩
/-- what the first k differ in -/
def bt (xs ys : List (List UInt8)) (k : Nat) : List DM.Chg := DM.betw 0 (xs.take k) (ys.take k)
theorem betw_append : ∀ (i : Nat) (a b c d : List (List UInt8)), a.length = b.length → DM.betw i (a ++ c) (b ++ d) = DM.betw i a b ++ DM.betw (i + a.length) c d := by
  intro i a
  induction a generalizing i with
  | nil => intro b c d h; cases b with | nil => simp [DM.betw] | cons y b => simp at h
  | cons x a ih =>
    intro b c d h
    cases b with
    | nil => simp at h
    | cons y b =>
      have h' : a.length = b.length := by simpa using h
      have := ih (i + 1) b c d h'
      simp only [List.cons_append, DM.betw]
      rw [this]
      have e : i + 1 + a.length = i + (a.length + 1) := by omega
      split <;> simp [e]
theorem bt_succ {xs ys : List (List UInt8)} {k : Nat} (h : xs.length = ys.length) (h1 : k < xs.length) (h2 : k < ys.length) : bt xs ys (k + 1) = bt xs ys k ++ DM.betw k [xs[k]] [ys[k]] := by
  unfold bt
  rw [take_snoc h1, take_snoc h2, betw_append 0 _ _ _ _ (by simp; omega)]
  congr 2
  simp; omega
theorem bt_same {xs ys : List (List UInt8)} {k : Nat} (h : xs.length = ys.length) (h1 : k < xs.length) (h2 : k < ys.length) (e : xs[k] = ys[k]) : bt xs ys (k + 1) = bt xs ys k := by
  rw [bt_succ h h1 h2]; simp [DM.betw, e]
theorem bt_diff {xs ys : List (List UInt8)} {k : Nat} (h : xs.length = ys.length) (h1 : k < xs.length) (h2 : k < ys.length) (e : ¬ xs[k] = ys[k]) : bt xs ys (k + 1) = bt xs ys k ++ [DM.one k xs[k] ys[k]] := by
  rw [bt_succ h h1 h2]; simp [DM.betw, e]
theorem bt_all {xs ys : List (List UInt8)} (h : xs.length = ys.length) : bt xs ys xs.length = DM.betw 0 xs ys := by
  unfold bt; rw [List.take_length, h, List.take_length]
theorem betw_len : ∀ (i : Nat) (a b : List (List UInt8)), (DM.betw i a b).length ≤ a.length := by
  intro i a
  induction a generalizing i with
  | nil => intro b; cases b <;> simp [DM.betw]
  | cons x a ih =>
    intro b
    cases b with
    | nil => simp [DM.betw]
    | cons y b =>
      simp only [DM.betw]
      have := ih (i + 1) b
      split <;> simp <;> omega
theorem bt_len (xs ys : List (List UInt8)) (k : Nat) : (bt xs ys k).length ≤ xs.length := by
  unfold bt
  have := betw_len 0 (xs.take k) (ys.take k)
  simp only [List.length_take] at this
  omega
theorem between_no (la lb : Option Addr) (n m c d : Nat) (w : World) (h : ¬ n = m) :
    Calls Try.prog 44 #[.slice la n c, .slice lb m d] w fun e w' => e = .returned (.tuple #[.slice none 0 0, .bool false]) ∧ w = w' := by
  have hl1 : ((n : Int) != (m : Int)) = true := by simp only [bne_iff_ne, ne_eq]; omega
  go_enter Try.func44, Try.ntmps44
  go_wp2_with fail
  all_goals go_ret2
  all_goals exact ⟨rfl, rfl⟩
set_option maxHeartbeats 4000000 in
set_option maxRecDepth 100000 in
theorem between_yes (la lb : Option Addr) (c d : Nat) (xs ys : List (List UInt8)) (w : World) (hl : xs.length = ys.length) (hn : xs.length ≤ 1000) (hx : Lens 100000 xs) (hy : Lens 100000 ys) (h1 : TxAt (fun _ => True) false w la xs) (h2 : TxAt (fun _ => True) false w lb ys) :
    Calls Try.prog 44 #[.slice la xs.length c, .slice lb ys.length d] w (Betwn (some (DM.betw 0 xs ys)) w) := by
  obtain ⟨i0, hi, hz0, hz1, hz2⟩ := info_parts infoCh_
  have h0 : Bld rChg w.heap.size 116 (fun _ => none) w (.slice none 0 0) [] [] := Bld.nil (fun b o h => by cases h)
  have hl1 : ((xs.length : Int) != (ys.length : Int)) = false := by simp [hl]
  have hl2 : ys.length ≤ 1000 := by omega
  have hl3 : xs.length ≤ ys.length := by omega
  replace hl := Lib.hid hl
  replace h0 := Lib.hid h0
  replace h1 := Lib.hid h1
  replace h2 := Lib.hid h2
  replace hx := Lib.hid hx
  replace hy := Lib.hid hy
  go_enter Try.func44, Try.ntmps44
  go_wp2_with fail
  go_loopw [6, 19] (fun v i wr => ∃ (k : Nat) (S : Sub) (css : List (List Value)), i = .int .i64 (k : Int) ∧ k ≤ xs.length ∧ Bld rChg w.heap.size 116 S wr v (bt xs ys k) css ∧ Below w.heap.size w wr) (fun _ i _ => xs.length - (intOf i).toNat)
  case atStart => exact ⟨0, _, _, rfl, by omega, h0.out, Below.refl _ _⟩
  case round =>
    obtain ⟨k, S, css, rfl, hk, hB, hbr⟩ := hrel
    by_cases hlt : k < xs.length
    · have hlt2 : k < ys.length := by omega
      obtain ⟨b1, o1, xa, xc, rfl, c1, x1, x2, hX⟩ := (h1.out.below hbr).nth hlt
      obtain ⟨b2, o2, ya, yc, rfl, c2, y1, y2, hY⟩ := (h2.out.below hbr).nth hlt2
      have lx := hx.out k hlt
      have ly := hy.out k hlt2
      have heq := fun n => equal_any xa ya xs[k] ys[k] xc yc (wr.drewN n) (hX.drewN n) (hY.drewN n)
      have hkI : (k : Int) < ys.length := by omega
      by_cases he : xs[k] = ys[k]
      · rw [eqB_true.2 he] at heq
        have hbt := bt_same hl.out hlt hlt2 he
        replace heq := Lib.hid heq
        replace hbt := Lib.hid hbt
        replace hB := Lib.hid hB
        clear hX hY he
        go_wp2_with (go_at_call 69; refine (heq.out 0).mono ?_; rintro e w5 ⟨rfl, rfl⟩)
        all_goals go_roundw
        case measure => simp [intOf]; omega
        case rel => exact ⟨k + 1, S, css, by go_num, by omega, by rw [hbt.out]; exact hB.out, hbr⟩
      · rw [eqB_false.2 he] at heq
        have hbt := bt_diff hl.out hlt hlt2 he
        have g1 := DM.cpre_le_left xs[k] ys[k]
        have g2 := DM.cpre_le_right xs[k] ys[k]
        have g3 := DM.csuf_le xs[k] ys[k]
        have hfr := fun n => front_any xa ya xs[k] ys[k] xc yc (wr.drewN n) (by omega) (by omega) (hX.any.drewN n) (hY.any.drewN n)
        have hbk := fun n => back_any (cutA xa (DM.cpre xs[k] ys[k]) xc 1) (cutA ya (DM.cpre xs[k] ys[k]) yc 1) (xs[k].drop (DM.cpre xs[k] ys[k])) (ys[k].drop (DM.cpre xs[k] ys[k])) (xc - DM.cpre xs[k] ys[k]) (yc - DM.cpre xs[k] ys[k]) (wr.drewN n) (by simp; omega) (by simp; omega) ((hX.any.drop x1 _).drewN n) ((hY.any.drop y1 _).drewN n)
        simp only [show DM.cpre (xs[k].drop (DM.cpre xs[k] ys[k])).reverse (ys[k].drop (DM.cpre xs[k] ys[k])).reverse = DM.csuf xs[k] ys[k] from rfl, List.length_drop] at hbk
        have hone : DM.one k xs[k] ys[k] = ⟨(k : Int), (DM.cpre xs[k] ys[k] : Int), (xs[k].drop (DM.cpre xs[k] ys[k])).take (xs[k].length - DM.cpre xs[k] ys[k] - DM.csuf xs[k] ys[k]), (ys[k].drop (DM.cpre xs[k] ys[k])).take (ys[k].length - DM.cpre xs[k] ys[k] - DM.csuf xs[k] ys[k])⟩ := rfl
        have e1 : ((xs[k].drop (DM.cpre xs[k] ys[k])).take (xs[k].length - DM.cpre xs[k] ys[k] - DM.csuf xs[k] ys[k])).length = xs[k].length - DM.cpre xs[k] ys[k] - DM.csuf xs[k] ys[k] := by rw [List.length_take, List.length_drop]; omega
        have e2 : ((ys[k].drop (DM.cpre xs[k] ys[k])).take (ys[k].length - DM.cpre xs[k] ys[k] - DM.csuf xs[k] ys[k])).length = ys[k].length - DM.cpre xs[k] ys[k] - DM.csuf xs[k] ys[k] := by rw [List.length_take, List.length_drop]; omega
        have b3 := (hX.any.drop x1 (DM.cpre xs[k] ys[k])).take (xs[k].length - DM.cpre xs[k] ys[k] - DM.csuf xs[k] ys[k])
        have b4 := (hY.any.drop y1 (DM.cpre xs[k] ys[k])).take (ys[k].length - DM.cpre xs[k] ys[k] - DM.csuf xs[k] ys[k])
        generalize (xs[k].drop (DM.cpre xs[k] ys[k])).take (xs[k].length - DM.cpre xs[k] ys[k] - DM.csuf xs[k] ys[k]) = old at *
        generalize (ys[k].drop (DM.cpre xs[k] ys[k])).take (ys[k].length - DM.cpre xs[k] ys[k] - DM.csuf xs[k] ys[k]) = new at *
        generalize DM.cpre xs[k] ys[k] = u at *
        generalize DM.csuf xs[k] ys[k] = n at *
        have z1 : (u : Int) ≤ xs[k].length := by omega
        have z2 : (u : Int) ≤ ys[k].length := by omega
        have z3 : (0 : Int) ≤ u := by omega
        have hts : (bt xs ys k).length ≤ 1000 := by have := bt_len xs ys k; omega
        have f1 : (Lit.int .i64 (k : Int)).wf = true := wf64 (by omega) (by omega)
        have f2 : (Lit.int .i64 (u : Int)).wf = true := wf64 (by omega) (by omega)
        generalize bt xs ys k = ts at *
        have hBd := Lib.hid (fun (W : World) (hb : Below wr.heap.size wr W) => hB.below hb)
        have hin := hB.inn
        replace hin := Lib.hid hin
        replace e1 := Lib.hid e1
        replace e2 := Lib.hid e2
        replace f1 := Lib.hid f1
        replace f2 := Lib.hid f2
        replace hfr := Lib.hid hfr
        replace hbk := Lib.hid hbk
        replace heq := Lib.hid heq
        replace hbt := Lib.hid hbt
        replace hone := Lib.hid hone
        replace b3 := Lib.hid b3
        replace b4 := Lib.hid b4
        replace hts := Lib.hid hts
        clear hX hY he hB
        go_wp2_with (first | (go_at_call 69; refine (heq.out 0).mono ?_; rintro e w5 ⟨rfl, rfl⟩) | (go_at_call 70; refine (hfr.out 0).mono ?_; rintro e w5 ⟨rfl, m5, rfl⟩))
        go_quiet (fail)
        go_wp2_with (go_at_call 71; refine (hbk.out _).mono ?_; rintro e w5 ⟨rfl, m6, rfl⟩)
        replace e1 := e1.out
        replace e2 := e2.out
        replace b3 := b3.out
        replace b4 := b4.out
        replace hts := hts.out
        generalize hp : xs[k].length - u = p at *
        generalize hq : ys[k].length - u = q at *
        have hc1 := fun (W : World) (hb : Below wr.heap.size wr W) => cloneS (S := S) (w := W) (hin.out.below hb) (cutA xa u xc 1) (xc - u) old (by omega) (b3.below hb)
        have hc2 := fun (W : World) (hb : Below wr.heap.size wr W) (T : Sub) (hS : T.In W) => cloneS (S := T) (w := W) hS (cutA ya u yc 1) (yc - u) new (by omega) (b4.below hb)
        rw [e1] at hc1
        rw [e2] at hc2
        have m1 : ts.length + 1 ≤ maxLen := by unfold maxLen; omega
        have m2 : (ts.length + 1) * 64 ≤ 140737488355328 := by omega
        have z6 : (0 : Int) ≤ (p : Int) - n := by omega
        have z7 : (0 : Int) ≤ (q : Int) - n := by omega
        have z8 : (p : Int) - n ≤ ((xc - u : Nat) : Int) := by omega
        have z9 : (q : Int) - n ≤ ((yc - u : Nat) : Int) := by omega
        have z4 : IntKind.i64.wrap ((p : Int) - (n : Int)) = (p : Int) - n := IntWalk.i64_in _ (by omega)
        have z5 : IntKind.i64.wrap ((q : Int) - (n : Int)) = (q : Int) - n := IntWalk.i64_in _ (by omega)
        have z10 : ((p : Int) - n).toNat = p - n := by omega
        have z11 : ((q : Int) - n).toNat = q - n := by omega
        replace hc1 := Lib.hid hc1
        replace hc2 := Lib.hid hc2
        replace e1 := Lib.hid e1
        replace e2 := Lib.hid e2
        replace hp := Lib.hid hp
        replace hq := Lib.hid hq
        clear b3 b4
        have hbd := fun m => bl_drewN (Below.refl wr.heap.size wr) m
        have hvo := Lib.hid (fun (W W5 W6 : World) (T5 T6 : Sub) (hb : Below wr.heap.size wr W) (hg5 : Grow S W T5 W5) (hg6 : Grow T5 W5 T6 W6) (o : Obj) => (((hBd.out W hb).grow hg5).grow hg6).below (w' := W6.alloc o) (bl_alloc (Below.refl _ _) o))
        replace hbd := Lib.hid hbd
        go_region_held3 (fun w' => True) (exact True.intro)
          (first
          | (go_at_call 72; ((with_reducible refine (hc1.out _ (hbd.out _)).mono ?_); rintro e w5 ⟨a5, c5, T5, rfl, hg5, ok5⟩; have hs5 := bl_trans (hbd.out _) hg5.below; replace hg5 := Lib.hid hg5; replace ok5 := Lib.hid ok5))
          | (go_at_call 72; ((with_reducible refine (hc2.out _ hs5 T5 hg5.out.inn).mono ?_); rintro e w6 ⟨a6, c6, T6, rfl, hg6, ok6⟩; have hs6 := bl_trans hs5 hg6.below; replace hg6 := Lib.hid hg6; replace ok6 := Lib.hid ok6))
          | (have hB6 := hvo.out _ w5 w6 T5 T6 (hbd.out _) hg5.out hg6.out (.cells #[.int .i64 (k : Int), .int .i64 (u : Int), .slice a5 (p - n) c5, .slice a6 (q - n) c6] 116); refine step_append_lies _ (by rfl) (.tmp 43) (.tmp 61) 87 (by rfl) w.heap.size 116 i0 _ 4 64 Try.underlying87 hi hz0 hz1 hz2 (by rfl) (Nat.zero_lt_succ 3) _ ts.length _ (by rfl) hB6.own ⟨w6.heap.size, 0, none⟩ 1 1 [.int .i64 (k : Int), .int .i64 (u : Int), .slice a5 (p - n) c5, .slice a6 (q - n) c6] (by rfl) (by rfl) (World.news_of_block (heap_alloc_new w6 _)) (one4 _ _ _ _ _ _ _ _) Nat.zero_lt_one m1 m2 (Nat.le_trans hbr.size (bl_alloc hs6 _).size) (w6.heap.size + 1) (World.size_alloc _ _) ?_; intro g cap w7 hown7 hgrow7 hat7 hlt7; have hs7 := (bl_trans hbr (bl_alloc hs6 _)).grown hgrow7 (bl_trans hbr (bl_alloc hs6 _)).size (fun j hj => (hB6.own.lt j hj).1); have hB7 := hB6.snoc (x := (⟨(k : Int), (u : Int), old, new⟩ : DM.Chg)) (rChg_ok f1.out f2.out ((rSl rByte).mono hg6.out.le ok5.out) ok6.out) hown7 rfl hgrow7 (lies_own' hat7); replace hB7 := Lib.hid hB7; clear hB6 hown7 hat7))
        have hB8 := hB7.out
        rw [← hone.out, ← hbt.out] at hB8
        replace hB8 := Lib.hid hB8
        clear hB7 z4 z5 z10 z11
        all_goals go_wp2_with fail
        all_goals go_roundw
        case measure => simp [intOf]; omega
        case rel => exact ⟨k + 1, T6, _, by go_num, by omega, hB8.out, hs7⟩
    · obtain rfl : k = xs.length := by omega
      rw [bt_all hl.out] at hB
      obtain ⟨a, c5, rfl, _⟩ := hB.form
      obtain ⟨T, _, hTin, _, hT⟩ := hB.done
      obtain ⟨a', c', e, _, _, hch⟩ := ChAt.of_sub hTin hT
      obtain ⟨rfl, _, rfl⟩ : a = a' ∧ True ∧ c5 = c' := by injection e with e1 e2 e3; exact ⟨e1, trivial, e3⟩
      replace hch := Lib.hid hch
      clear hB hT e
      go_wp2_with fail
      all_goals go_ret2
      all_goals exact Betwn.yes rfl rfl hch.out.any hbr
/-! ### the document's example -/
theorem awakeD : DM.betw 0 [[97, 98], [99, 100, 101]] [[97, 98], [99, 88, 89, 101]] = [⟨1, 1, [100], [88, 89]⟩] := chB_iff.1 (by decide +kernel)
end Go.Proofs.Ytfbimghnimepjaa
