/-
  How changes lie in memory as data, and the contract of the law's 'of' (changes, as the program has them), of chapter 23.
  Conditions: as each theorem states them.
-/
import Derived.Test.YtepdfkgadigafaaGreatDoorDlA
import Derived.Test.YtepdfkgadigafaaGreatDoorDlB
import Derived.Deep.RegionHeld3
import Derived.Deep.DrawnRows
import Derived.Lib.SlBytesConst
namespace Go.Proofs.YtepdfkgadigafaaGreatDoor
open Go.RowKit
set_option linter.unusedVariables false
set_option linter.unusedSimpArgs false
abbrev rChg0 : Rp (Int × Int × List UInt8 × List UInt8 × Unit) := rPair (rInt .i64) (rPair (rInt .i64) (rPair (rSl rByte) (rPair (rSl rByte) rUnit)))
def chg0 (c : DM.Chg) : Int × Int × List UInt8 × List UInt8 × Unit := (c.field, c.pos, c.old, c.new, ())
def rChg : Rp DM.Chg := rBy rChg0 chg0
theorem ByAt.of_sub {S : Sub} {w : World} (hS : S.In w) {v : Value} {xs : List UInt8} (h : (rSl rByte).ok S [v] xs) : ∃ a c, v = .slice a xs.length c ∧ xs.length ≤ c ∧ c ≤ maxLen ∧ ByAt (fun b => S b ≠ none) false w a xs := by
  obtain ⟨a, c, e, h1, h2, h3⟩ := h
  refine ⟨a, c, by simpa using e, h1, h2, fun h0 => ?_⟩
  obtain ⟨b, o, e, hr⟩ := h3 h0
  obtain ⟨cs, hok, hat⟩ := hr 0 h0
  obtain ⟨c, e', fr, hb, _⟩ := hat
  exact ⟨b, o, e, (fun hq => by rw [hb] at hq; cases hq), hS.lt hb, fun x => (Bool.false_ne_true x).elim, hr.bytes hS⟩
theorem rChg_cells {S : Sub} {cs : List Value} {x : DM.Chg} (h : rChg.ok S cs x) : ∃ v1 v2, cs = [.int .i64 x.field, .int .i64 x.pos, v1, v2] ∧ (rSl rByte).ok S [v1] x.old ∧ (rSl rByte).ok S [v2] x.new := by
  obtain ⟨c1, c2, rfl, ⟨rfl, _⟩, c3, c4, rfl, ⟨rfl, _⟩, c5, c6, rfl, h5, c7, c8, rfl, h7, h8⟩ := h
  obtain ⟨v1, rfl⟩ : ∃ v, c5 = [v] := List.length_eq_one_iff.1 ((rSl rByte).len h5)
  obtain ⟨v2, rfl⟩ : ∃ v, c7 = [v] := List.length_eq_one_iff.1 ((rSl rByte).len h7)
  have h8' : c8 = [] := h8
  subst h8'
  exact ⟨v1, v2, rfl, h5, h7⟩
theorem rChg_ok {S : Sub} {f p : Int} {v1 v2 : Value} {old new : List UInt8} (hf : (Lit.int .i64 f).wf = true) (hp : (Lit.int .i64 p).wf = true) (h1 : (rSl rByte).ok S [v1] old) (h2 : (rSl rByte).ok S [v2] new) : rChg.ok S [.int .i64 f, .int .i64 p, v1, v2] ⟨f, p, old, new⟩ :=
  ⟨[.int .i64 f], [.int .i64 p, v1, v2], rfl, ⟨rfl, hf⟩, [.int .i64 p], [v1, v2], rfl, ⟨rfl, hp⟩, [v1], [v2], rfl, h1, [v2], [], rfl, h2, rfl⟩
theorem rChg_n : rChg.n = 4 := rfl
theorem ChAt.of_sub {S : Sub} {w : World} (hS : S.In w) {v : Value} {ds : List DM.Chg} (h : (rSl rChg).ok S [v] ds) : ∃ a c, v = .slice a ds.length c ∧ ds.length ≤ c ∧ c ≤ maxLen ∧ ChAt (fun b => S b ≠ none) w a ds := by
  obtain ⟨a, c, e, h1, h2, h3⟩ := h
  refine ⟨a, c, by simpa using e, h1, h2, fun h0 => ?_⟩
  obtain ⟨b, o, e, hr⟩ := h3 h0
  obtain ⟨cs0, hok0, hat0⟩ := hr 0 h0
  obtain ⟨c', e', fr, hb, _⟩ := id hat0
  refine ⟨b, o, e, (fun hq => by rw [hb] at hq; cases hq), hS.lt hb, fun i hi => ?_⟩
  obtain ⟨cs, hok, hat⟩ := hr i hi
  obtain ⟨v1, v2, rfl, h5, h6⟩ := rChg_cells hok
  obtain ⟨a1, c1, rfl, q1, q2, q3⟩ := ByAt.of_sub hS h5
  obtain ⟨a2, c2, rfl, q4, q5, q6⟩ := ByAt.of_sub hS h6
  have k0 := hat.cell hS (j := 0) (by simp)
  have k1 := hat.cell hS (j := 1) (by simp)
  have k2 := hat.cell hS (j := 2) (by simp)
  have k3 := hat.cell hS (j := 3) (by simp)
  rw [rChg_n] at k0 k1 k2 k3
  exact ⟨by simpa using k0, by simpa using k1, ⟨a1, c1, by simpa using k2, q1, q2, q3⟩, ⟨a2, c2, by simpa using k3, q4, q5, q6⟩⟩
theorem ChAt.any {K : Nat → Prop} {w : World} {a : Option Addr} {ds : List DM.Chg} (h : ChAt K w a ds) : ChAt (fun _ => True) w a ds := h.mono (fun _ _ => trivial)
/-- a fresh row of bytes, frozen -/
theorem freeze_bytes {S : Sub} {w w' : World} (hS : S.In w) {v : Value} {xs : List UInt8} (ho : w'.ownsRow w.heap.size 5 1 v xs.length (xs.map bv)) (hb : Below w.heap.size w w') : ∃ T, Grow S w T w' ∧ (rSl rByte).ok T [v] xs := by
  have e : (xs.map fun x => [bv x]).flatten = xs.map bv := by induction xs with
    | nil => rfl
    | cons x xs ih => 
      simp only [List.map_cons, List.flatten_cons, List.singleton_append]
      congr 1
      clear ho ih
      induction xs with
      | nil => rfl
      | cons y ys ih => simp only [List.map_cons, List.flatten_cons, List.singleton_append, ih]
  obtain ⟨T, h1, h2, h3, h4⟩ := freeze (A := rByte) (css := xs.map fun x => [bv x]) (hS.below hb) (by rw [e]; exact ho) (by simp) (fun i hi => by show _ = _; simp [bv]) (fun g e => hS.none (ho.lt g e).1)
  exact ⟨T, ⟨hb, h1, h2, fun b hb' => h3 b (fun e => by have := (ho.lt b e).1; omega)⟩, h4⟩
theorem rSl_form {α : Type} {A : Rp α} {S : Sub} {v : Value} {xs : List α} (h : (rSl A).ok S [v] xs) : ∃ a c, v = .slice a xs.length c := by
  obtain ⟨a, c, e, _⟩ := h
  exact ⟨a, c, by simpa using e⟩
theorem rcopyS {S : Sub} {w : World} (hS : S.In w) (ba : Option Addr) (bc : Nat) (xs : List UInt8) (hl : xs.length ≤ 1000000) (hs : ByAt (fun _ => True) false w ba xs) :
    Calls Tryz.prog 19 #[.slice ba xs.length bc] w fun e w' => ∃ a c T, e = .returned (.slice a xs.length c) ∧ Grow S w T w' ∧ (rSl rByte).ok T [.slice a xs.length c] xs :=
  (rcopy_any ba bc xs w hl hs).mono fun e w' ⟨v, he, ho, hb⟩ => let ⟨T, h1, h2⟩ := freeze_bytes hS ho hb; let ⟨a, c, e1⟩ := rSl_form h2; ⟨a, c, T, by rw [he, e1], h1, by rw [← e1]; exact h2⟩
theorem cloneS {S : Sub} {w : World} (hS : S.In w) (ba : Option Addr) (bc : Nat) (xs : List UInt8) (hl : xs.length ≤ 1000000) (hs : ByAt (fun _ => True) false w ba xs) :
    Calls Tryz.prog 29 #[.slice ba xs.length bc] w fun e w' => ∃ a c T, e = .returned (.slice a xs.length c) ∧ Grow S w T w' ∧ (rSl rByte).ok T [.slice a xs.length c] xs :=
  (clone_any ba bc xs w hl hs).mono fun e w' ⟨v, he, ho, hb⟩ => let ⟨T, h1, h2⟩ := freeze_bytes hS ho hb; let ⟨a, c, e1⟩ := rSl_form h2; ⟨a, c, T, by rw [he, e1], h1, by rw [← e1]; exact h2⟩
theorem infoCh_ : (Tryz.prog.info? 59).map (fun i => (i.zero, i.size, i.bytes)) = some (some (.agg #[.int .i64 0, .int .i64 0, .slice none 0 0, .slice none 0 0]), 4, 64) := by kernel_rfl
def WfCh (ds : List DM.Chg) : Prop := ∀ i (h : i < ds.length), (Lit.int .i64 ds[i].field).wf = true ∧ (Lit.int .i64 ds[i].pos).wf = true
theorem take_snoc {α : Type} {l : List α} {k : Nat} (h : k < l.length) : l.take (k + 1) = l.take k ++ [l[k]] := List.take_succ_eq_append_getElem h
theorem lies_own' {v : Value} {w : World} {o : Obj} {g n c : Nat} (h : v.ownBlock = some g ∨ g = w.heap.size + 1) : ∀ k, (Value.slice (some ⟨g, 0, none⟩) n c).ownBlock = some k → v.ownBlock = some k ∨ (w.alloc o).heap.size ≤ k := fun k e => by
  rw [World.size_alloc]; exact lies_own h k e
theorem one4 (f p : Int) (a b : Option Addr) (n c m d : Nat) : ∀ u ∈ [Value.int .i64 f, .int .i64 p, .slice a n c, .slice b m d], u.oneCell' = true := by
  intro u hu
  simp only [List.mem_cons, List.not_mem_nil, or_false] at hu
  rcases hu with rfl | rfl | rfl | rfl <;> rfl
attribute [local go_sem ↓] Go.wp_at_zero Go.wp_at_succ
end Go.Proofs.YtepdfkgadigafaaGreatDoor
/-
  The contract of Between, of chapter 23.
  Conditions: as each theorem states them.
-/
namespace Go.Proofs.YtepdfkgadigafaaGreatDoor
open Go.RowKit
set_option linter.unusedVariables false
set_option linter.unusedSimpArgs false
attribute [local go_sem ↓] run_cut_h run_cut_l run_cut_lh
theorem wf64D {n : Int} (h0 : 0 ≤ n) (h1 : n ≤ 1000000) : (Lit.int .i64 n).wf = true := by
  simp [Lit.wf, IntKind.min, IntKind.max, IntKind.signed, IntKind.bits]; omega
/-- what Between's answer says of its memory -/
def Betwn (ds : Option (List DM.Chg)) (w : World) (e : Ending) (w' : World) : Prop :=
  match ds with
  | none => e = .returned (.tuple #[.slice none 0 0, .bool false]) ∧ Below w.heap.size w w'
  | some ds => ∃ a c, e = .returned (.tuple #[.slice a ds.length c, .bool true]) ∧ ChAt (fun _ => True) w' a ds ∧ Below w.heap.size w w'
theorem Betwn.no {w w' : World} {e : Ending} (h : e = .returned (.tuple #[.slice none 0 0, .bool false])) (hb : Below w.heap.size w w') : Betwn none w e w' := ⟨h, hb⟩
theorem Betwn.yes {w w' : World} {e : Ending} {ds : List DM.Chg} {n c : Nat} {a : Option Addr} (hn : n = ds.length) (h : e = .returned (.tuple #[.slice a n c, .bool true])) (ho : ChAt (fun _ => True) w' a ds) (hb : Below w.heap.size w w') : Betwn (some ds) w e w' := by
  subst hn; exact ⟨a, c, h, ho, hb⟩
/-- what the first k differ in -/
def bt (xs ys : List (List UInt8)) (k : Nat) : List DM.Chg := DM.betw 0 (xs.take k) (ys.take k)
theorem betw_append : ∀ (i : Nat) (a b c d : List (List UInt8)), a.length = b.length → DM.betw i (a ++ c) (b ++ d) = DM.betw i a b ++ DM.betw (i + a.length) c d := by
  intro i a
  induction a generalizing i with
  | nil => intro b c d h; cases b with | nil => simp [DM.betw] | cons y b => simp at h
  | cons x a ih =>
    intro b c d h
    cases b with
    | nil => simp at h
    | cons y b =>
      have h' : a.length = b.length := by simpa using h
      have := ih (i + 1) b c d h'
      simp only [List.cons_append, DM.betw]
      rw [this]
      have e : i + 1 + a.length = i + (a.length + 1) := by omega
      split <;> simp [e]
theorem bt_succ {xs ys : List (List UInt8)} {k : Nat} (h : xs.length = ys.length) (h1 : k < xs.length) (h2 : k < ys.length) : bt xs ys (k + 1) = bt xs ys k ++ DM.betw k [xs[k]] [ys[k]] := by
  unfold bt
  rw [take_snoc h1, take_snoc h2, betw_append 0 _ _ _ _ (by simp; omega)]
  congr 2
  simp; omega
theorem bt_same {xs ys : List (List UInt8)} {k : Nat} (h : xs.length = ys.length) (h1 : k < xs.length) (h2 : k < ys.length) (e : xs[k] = ys[k]) : bt xs ys (k + 1) = bt xs ys k := by
  rw [bt_succ h h1 h2]; simp [DM.betw, e]
theorem bt_diff {xs ys : List (List UInt8)} {k : Nat} (h : xs.length = ys.length) (h1 : k < xs.length) (h2 : k < ys.length) (e : ¬ xs[k] = ys[k]) : bt xs ys (k + 1) = bt xs ys k ++ [DM.one k xs[k] ys[k]] := by
  rw [bt_succ h h1 h2]; simp [DM.betw, e]
theorem bt_all {xs ys : List (List UInt8)} (h : xs.length = ys.length) : bt xs ys xs.length = DM.betw 0 xs ys := by
  unfold bt; rw [List.take_length, h, List.take_length]
theorem betw_len : ∀ (i : Nat) (a b : List (List UInt8)), (DM.betw i a b).length ≤ a.length := by
  intro i a
  induction a generalizing i with
  | nil => intro b; cases b <;> simp [DM.betw]
  | cons x a ih =>
    intro b
    cases b with
    | nil => simp [DM.betw]
    | cons y b =>
      simp only [DM.betw]
      have := ih (i + 1) b
      split <;> simp <;> omega
theorem bt_len (xs ys : List (List UInt8)) (k : Nat) : (bt xs ys k).length ≤ xs.length := by
  unfold bt
  have := betw_len 0 (xs.take k) (ys.take k)
  simp only [List.length_take] at this
  omega
theorem between_no (la lb : Option Addr) (n m c d : Nat) (w : World) (h : ¬ n = m) :
    Calls Tryz.prog 20 #[.slice la n c, .slice lb m d] w fun e w' => e = .returned (.tuple #[.slice none 0 0, .bool false]) ∧ w = w' := by
  have hl1 : ((n : Int) != (m : Int)) = true := by simp only [bne_iff_ne, ne_eq]; omega
  go_enter Tryz.func20, Tryz.ntmps20
  go_wp2_with fail
  all_goals go_ret2
  all_goals exact ⟨rfl, rfl⟩
set_option maxHeartbeats 4000000 in
set_option maxRecDepth 100000 in
theorem between_yes (la lb : Option Addr) (c d : Nat) (xs ys : List (List UInt8)) (w : World) (hl : xs.length = ys.length) (hn : xs.length ≤ 1000) (hx : Lens 100000 xs) (hy : Lens 100000 ys) (h1 : TxAt (fun _ => True) false w la xs) (h2 : TxAt (fun _ => True) false w lb ys) :
    Calls Tryz.prog 20 #[.slice la xs.length c, .slice lb ys.length d] w (Betwn (some (DM.betw 0 xs ys)) w) := by
  obtain ⟨i0, hi, hz0, hz1, hz2⟩ := info_parts infoCh_
  have h0 : Bld rChg w.heap.size 59 (fun _ => none) w (.slice none 0 0) [] [] := Bld.nil (fun b o h => by cases h)
  have hl1 : ((xs.length : Int) != (ys.length : Int)) = false := by simp [hl]
  have hl2 : ys.length ≤ 1000 := by omega
  have hl3 : xs.length ≤ ys.length := by omega
  replace hl := Lib.hid hl
  replace h0 := Lib.hid h0
  replace h1 := Lib.hid h1
  replace h2 := Lib.hid h2
  replace hx := Lib.hid hx
  replace hy := Lib.hid hy
  go_enter Tryz.func20, Tryz.ntmps20
  go_wp2_with fail
  go_loopw [6, 19] (fun v i wr => ∃ (k : Nat) (S : Sub) (css : List (List Value)), i = .int .i64 (k : Int) ∧ k ≤ xs.length ∧ Bld rChg w.heap.size 59 S wr v (bt xs ys k) css ∧ Below w.heap.size w wr) (fun _ i _ => xs.length - (intOf i).toNat)
  case atStart => exact ⟨0, _, _, rfl, by omega, h0.out, Below.refl _ _⟩
  case round =>
    obtain ⟨k, S, css, rfl, hk, hB, hbr⟩ := hrel
    by_cases hlt : k < xs.length
    · have hlt2 : k < ys.length := by omega
      obtain ⟨b1, o1, xa, xc, rfl, c1, x1, x2, hX⟩ := (h1.out.below hbr).nth hlt
      obtain ⟨b2, o2, ya, yc, rfl, c2, y1, y2, hY⟩ := (h2.out.below hbr).nth hlt2
      have lx := hx.out k hlt
      have ly := hy.out k hlt2
      have heq := fun n => equal_any xa ya xs[k] ys[k] xc yc (wr.drewN n) (hX.drewN n) (hY.drewN n)
      have hkI : (k : Int) < ys.length := by omega
      by_cases he : xs[k] = ys[k]
      · rw [eqB_true.2 he] at heq
        have hbt := bt_same hl.out hlt hlt2 he
        replace heq := Lib.hid heq
        replace hbt := Lib.hid hbt
        replace hB := Lib.hid hB
        clear hX hY he
        go_wp2_with (go_at_call 37; refine (heq.out 0).mono ?_; rintro e w5 ⟨rfl, rfl⟩)
        all_goals go_roundw
        case measure => simp [intOf]; omega
        case rel => exact ⟨k + 1, S, css, by go_num, by omega, by rw [hbt.out]; exact hB.out, hbr⟩
      · rw [eqB_false.2 he] at heq
        have hbt := bt_diff hl.out hlt hlt2 he
        have g1 := DM.cpre_le_left xs[k] ys[k]
        have g2 := DM.cpre_le_right xs[k] ys[k]
        have g3 := DM.csuf_le xs[k] ys[k]
        have hfr := fun n => front_any xa ya xs[k] ys[k] xc yc (wr.drewN n) (by omega) (by omega) (hX.any.drewN n) (hY.any.drewN n)
        have hbk := fun n => back_any (cutA xa (DM.cpre xs[k] ys[k]) xc 1) (cutA ya (DM.cpre xs[k] ys[k]) yc 1) (xs[k].drop (DM.cpre xs[k] ys[k])) (ys[k].drop (DM.cpre xs[k] ys[k])) (xc - DM.cpre xs[k] ys[k]) (yc - DM.cpre xs[k] ys[k]) (wr.drewN n) (by simp; omega) (by simp; omega) ((hX.any.drop x1 _).drewN n) ((hY.any.drop y1 _).drewN n)
        simp only [show DM.cpre (xs[k].drop (DM.cpre xs[k] ys[k])).reverse (ys[k].drop (DM.cpre xs[k] ys[k])).reverse = DM.csuf xs[k] ys[k] from rfl, List.length_drop] at hbk
        have hone : DM.one k xs[k] ys[k] = ⟨(k : Int), (DM.cpre xs[k] ys[k] : Int), (xs[k].drop (DM.cpre xs[k] ys[k])).take (xs[k].length - DM.cpre xs[k] ys[k] - DM.csuf xs[k] ys[k]), (ys[k].drop (DM.cpre xs[k] ys[k])).take (ys[k].length - DM.cpre xs[k] ys[k] - DM.csuf xs[k] ys[k])⟩ := rfl
        have e1 : ((xs[k].drop (DM.cpre xs[k] ys[k])).take (xs[k].length - DM.cpre xs[k] ys[k] - DM.csuf xs[k] ys[k])).length = xs[k].length - DM.cpre xs[k] ys[k] - DM.csuf xs[k] ys[k] := by rw [List.length_take, List.length_drop]; omega
        have e2 : ((ys[k].drop (DM.cpre xs[k] ys[k])).take (ys[k].length - DM.cpre xs[k] ys[k] - DM.csuf xs[k] ys[k])).length = ys[k].length - DM.cpre xs[k] ys[k] - DM.csuf xs[k] ys[k] := by rw [List.length_take, List.length_drop]; omega
        have b3 := (hX.any.drop x1 (DM.cpre xs[k] ys[k])).take (xs[k].length - DM.cpre xs[k] ys[k] - DM.csuf xs[k] ys[k])
        have b4 := (hY.any.drop y1 (DM.cpre xs[k] ys[k])).take (ys[k].length - DM.cpre xs[k] ys[k] - DM.csuf xs[k] ys[k])
        generalize (xs[k].drop (DM.cpre xs[k] ys[k])).take (xs[k].length - DM.cpre xs[k] ys[k] - DM.csuf xs[k] ys[k]) = old at *
        generalize (ys[k].drop (DM.cpre xs[k] ys[k])).take (ys[k].length - DM.cpre xs[k] ys[k] - DM.csuf xs[k] ys[k]) = new at *
        generalize DM.cpre xs[k] ys[k] = u at *
        generalize DM.csuf xs[k] ys[k] = n at *
        have z1 : (u : Int) ≤ xs[k].length := by omega
        have z2 : (u : Int) ≤ ys[k].length := by omega
        have z3 : (0 : Int) ≤ u := by omega
        have hts : (bt xs ys k).length ≤ 1000 := by have := bt_len xs ys k; omega
        have f1 : (Lit.int .i64 (k : Int)).wf = true := wf64D (by omega) (by omega)
        have f2 : (Lit.int .i64 (u : Int)).wf = true := wf64D (by omega) (by omega)
        generalize bt xs ys k = ts at *
        have hBd := Lib.hid (fun (W : World) (hb : Below wr.heap.size wr W) => hB.below hb)
        have hin := hB.inn
        replace hin := Lib.hid hin
        replace e1 := Lib.hid e1
        replace e2 := Lib.hid e2
        replace f1 := Lib.hid f1
        replace f2 := Lib.hid f2
        replace hfr := Lib.hid hfr
        replace hbk := Lib.hid hbk
        replace heq := Lib.hid heq
        replace hbt := Lib.hid hbt
        replace hone := Lib.hid hone
        replace b3 := Lib.hid b3
        replace b4 := Lib.hid b4
        replace hts := Lib.hid hts
        clear hX hY he hB
        go_wp2_with (first | (go_at_call 37; refine (heq.out 0).mono ?_; rintro e w5 ⟨rfl, rfl⟩) | (go_at_call 48; refine (hfr.out 0).mono ?_; rintro e w5 ⟨rfl, m5, rfl⟩))
        go_quiet (fail)
        go_wp2_with (go_at_call 49; refine (hbk.out _).mono ?_; rintro e w5 ⟨rfl, m6, rfl⟩)
        replace e1 := e1.out
        replace e2 := e2.out
        replace b3 := b3.out
        replace b4 := b4.out
        replace hts := hts.out
        generalize hp : xs[k].length - u = p at *
        generalize hq : ys[k].length - u = q at *
        have hc1 := fun (W : World) (hb : Below wr.heap.size wr W) => cloneS (S := S) (w := W) (hin.out.below hb) (cutA xa u xc 1) (xc - u) old (by omega) (b3.below hb)
        have hc2 := fun (W : World) (hb : Below wr.heap.size wr W) (T : Sub) (hS : T.In W) => cloneS (S := T) (w := W) hS (cutA ya u yc 1) (yc - u) new (by omega) (b4.below hb)
        rw [e1] at hc1
        rw [e2] at hc2
        have m1 : ts.length + 1 ≤ maxLen := by unfold maxLen; omega
        have m2 : (ts.length + 1) * 64 ≤ 140737488355328 := by omega
        have z6 : (0 : Int) ≤ (p : Int) - n := by omega
        have z7 : (0 : Int) ≤ (q : Int) - n := by omega
        have z8 : (p : Int) - n ≤ ((xc - u : Nat) : Int) := by omega
        have z9 : (q : Int) - n ≤ ((yc - u : Nat) : Int) := by omega
        have z4 : IntKind.i64.wrap ((p : Int) - (n : Int)) = (p : Int) - n := IntWalk.i64_in _ (by omega)
        have z5 : IntKind.i64.wrap ((q : Int) - (n : Int)) = (q : Int) - n := IntWalk.i64_in _ (by omega)
        have z10 : ((p : Int) - n).toNat = p - n := by omega
        have z11 : ((q : Int) - n).toNat = q - n := by omega
        replace hc1 := Lib.hid hc1
        replace hc2 := Lib.hid hc2
        replace e1 := Lib.hid e1
        replace e2 := Lib.hid e2
        replace hp := Lib.hid hp
        replace hq := Lib.hid hq
        clear b3 b4
        have hbd := fun m => bl_drewN (Below.refl wr.heap.size wr) m
        have hvo := Lib.hid (fun (W W5 W6 : World) (T5 T6 : Sub) (hb : Below wr.heap.size wr W) (hg5 : Grow S W T5 W5) (hg6 : Grow T5 W5 T6 W6) (o : Obj) => (((hBd.out W hb).grow hg5).grow hg6).below (w' := W6.alloc o) (bl_alloc (Below.refl _ _) o))
        replace hbd := Lib.hid hbd
        go_region_held3 (fun w' => True) (exact True.intro)
          (first
          | (go_at_call 29; ((with_reducible refine (hc1.out _ (hbd.out _)).mono ?_); rintro e w5 ⟨a5, c5, T5, rfl, hg5, ok5⟩; have hs5 := bl_trans (hbd.out _) hg5.below; replace hg5 := Lib.hid hg5; replace ok5 := Lib.hid ok5))
          | (go_at_call 29; ((with_reducible refine (hc2.out _ hs5 T5 hg5.out.inn).mono ?_); rintro e w6 ⟨a6, c6, T6, rfl, hg6, ok6⟩; have hs6 := bl_trans hs5 hg6.below; replace hg6 := Lib.hid hg6; replace ok6 := Lib.hid ok6))
          | (have hB6 := hvo.out _ w5 w6 T5 T6 (hbd.out _) hg5.out hg6.out (.cells #[.int .i64 (k : Int), .int .i64 (u : Int), .slice a5 (p - n) c5, .slice a6 (q - n) c6] 59); refine step_append_lies _ (by rfl) (.tmp 43) (.tmp 61) 38 (by rfl) w.heap.size 59 i0 _ 4 64 Tryz.underlying38 hi hz0 hz1 hz2 (by rfl) (Nat.zero_lt_succ 3) _ ts.length _ (by rfl) hB6.own ⟨w6.heap.size, 0, none⟩ 1 1 [.int .i64 (k : Int), .int .i64 (u : Int), .slice a5 (p - n) c5, .slice a6 (q - n) c6] (by rfl) (by rfl) (World.news_of_block (heap_alloc_new w6 _)) (one4 _ _ _ _ _ _ _ _) Nat.zero_lt_one m1 m2 (Nat.le_trans hbr.size (bl_alloc hs6 _).size) (w6.heap.size + 1) (World.size_alloc _ _) ?_; intro g cap w7 hown7 hgrow7 hat7 hlt7; have hs7 := (bl_trans hbr (bl_alloc hs6 _)).grown hgrow7 (bl_trans hbr (bl_alloc hs6 _)).size (fun j hj => (hB6.own.lt j hj).1); have hB7 := hB6.snoc (x := (⟨(k : Int), (u : Int), old, new⟩ : DM.Chg)) (rChg_ok f1.out f2.out ((rSl rByte).mono hg6.out.le ok5.out) ok6.out) hown7 rfl hgrow7 (lies_own' hat7); replace hB7 := Lib.hid hB7; clear hB6 hown7 hat7))
        have hB8 := hB7.out
        rw [← hone.out, ← hbt.out] at hB8
        replace hB8 := Lib.hid hB8
        clear hB7 z4 z5 z10 z11
        all_goals go_wp2_with fail
        all_goals go_roundw
        case measure => simp [intOf]; omega
        case rel => exact ⟨k + 1, T6, _, by go_num, by omega, hB8.out, hs7⟩
    · obtain rfl : k = xs.length := by omega
      rw [bt_all hl.out] at hB
      obtain ⟨a, c5, rfl, _⟩ := hB.form
      obtain ⟨T, _, hTin, _, hT⟩ := hB.done
      obtain ⟨a', c', e, _, _, hch⟩ := ChAt.of_sub hTin hT
      obtain ⟨rfl, _, rfl⟩ : a = a' ∧ True ∧ c5 = c' := by injection e with e1 e2 e3; exact ⟨e1, trivial, e3⟩
      replace hch := Lib.hid hch
      clear hB hT e
      go_wp2_with fail
      all_goals go_ret2
      all_goals exact Betwn.yes rfl rfl hch.out.any hbr
/-! ### the document's example -/
theorem awakeD : DM.betw 0 [[97, 98], [99, 100, 101]] [[97, 98], [99, 88, 89, 101]] = [⟨1, 1, [100], [88, 89]⟩] := chB_iff.1 (by decide +kernel)
end Go.Proofs.YtepdfkgadigafaaGreatDoor
/-
  The contract of chapter 23's awake (the document's example): it answers true.
  Conditions: none.
-/
namespace Go.Proofs.YtepdfkgadigafaaGreatDoor
open Go.RowKit
set_option linter.unusedVariables false
set_option linter.unusedSimpArgs false
theorem heap_at (w : World) (o : Obj) (k : Nat) (h : k = w.heap.size) : (w.alloc o).heap[k]? = some o := by subst h; exact heap_alloc_new w o
theorem row_of_heap {W : World} {g e : Nat} {x : List UInt8} {fr : Nat × Nat} (h : W.heap[g]? = some (.cells (x.map bv).toArray e fr)) : ByteRow W g 0 x := fun i hi => by
  simp only [World.cell?]
  rw [h]
  simp [bv, hi]
theorem tx_pair {W : World} {g g1 g2 e : Nat} {x y : List UInt8} {fr : Nat × Nat} (h : W.heap[g]? = some (.cells #[.slice (some ⟨g1, 0, none⟩) x.length x.length, .slice (some ⟨g2, 0, none⟩) y.length y.length] e fr))
    (hx : x.length ≤ maxLen) (hy : y.length ≤ maxLen) (h1 : g1 < W.heap.size) (h2 : g2 < W.heap.size) (r1 : ByteRow W g1 0 x) (r2 : ByteRow W g2 0 y) : TxAt (fun _ => True) false W (some ⟨g, 0, none⟩) [x, y] := fun _ =>
  ⟨g, 0, rfl, trivial, (Array.getElem?_eq_some_iff.1 h).1, fun i hi => by
    match i, hi with
    | 0, _ => exact ⟨some ⟨g1, 0, none⟩, x.length, by simp only [World.cell?]; rw [h]; rfl, Nat.le_refl _, hx, fun _ => ⟨g1, 0, rfl, trivial, h1, fun q => (Bool.false_ne_true q).elim, r1⟩⟩
    | 1, _ => exact ⟨some ⟨g2, 0, none⟩, y.length, by simp only [World.cell?]; rw [h]; rfl, Nat.le_refl _, hy, fun _ => ⟨g2, 0, rfl, trivial, h2, fun q => (Bool.false_ne_true q).elim, r2⟩⟩⟩
def W6 (w : World) : World := (((((w.alloc (.cells #[.int .u8 97, .int .u8 98] 5 (2, 3))).alloc (.cells #[.int .u8 99, .int .u8 100, .int .u8 101] 5 (3, 4))).alloc
  (.cells #[.slice (some ⟨w.heap.size, 0, none⟩) 2 2, .slice (some ⟨w.heap.size + 1, 0, none⟩) 3 3] 22)).alloc (.cells #[.int .u8 97, .int .u8 98] 5 (2, 3))).alloc
  (.cells #[.int .u8 99, .int .u8 88, .int .u8 89, .int .u8 101] 5 (4, 5))).alloc (.cells #[.slice (some ⟨w.heap.size + 1 + 1 + 1, 0, none⟩) 2 2, .slice (some ⟨w.heap.size + 1 + 1 + 1 + 1, 0, none⟩) 4 4] 22)
theorem W6_below (w : World) : Below w.heap.size w (W6 w) := by
  unfold W6
  repeat (first | exact Below.refl _ _ | refine bl_alloc ?_ _)
theorem between_awake (w : World) : Calls Tryz.prog 20 #[.slice (some ⟨w.heap.size + 1 + 1, 0, none⟩) 2 2, .slice (some ⟨w.heap.size + 1 + 1 + 1 + 1 + 1, 0, none⟩) 2 2] (W6 w) fun e w' =>
    ∃ a c, e = .returned (.tuple #[.slice a 1 c, .bool true]) ∧ ChAt (fun _ => True) w' a [⟨1, 1, [100], [88, 89]⟩] ∧ Below w.heap.size w w' := by
  have sz : (W6 w).heap.size = w.heap.size + 1 + 1 + 1 + 1 + 1 + 1 := by simp [W6]
  have h0 : (W6 w).heap[w.heap.size]? = some (.cells #[.int .u8 97, .int .u8 98] 5 (2, 3)) := by
    unfold W6
    repeat (first | (refine heap_at _ _ _ ?_; simp only [World.size_alloc]; done) | (refine (Below.heap_alloc _ _ _ ?_).trans ?_; (· (simp only [World.size_alloc]; omega))))
  have h1 : (W6 w).heap[w.heap.size + 1]? = some (.cells #[.int .u8 99, .int .u8 100, .int .u8 101] 5 (3, 4)) := by
    unfold W6
    repeat (first | (refine heap_at _ _ _ ?_; simp only [World.size_alloc]; done) | (refine (Below.heap_alloc _ _ _ ?_).trans ?_; (· (simp only [World.size_alloc]; omega))))
  have h2 : (W6 w).heap[w.heap.size + 1 + 1]? = some (.cells #[.slice (some ⟨w.heap.size, 0, none⟩) 2 2, .slice (some ⟨w.heap.size + 1, 0, none⟩) 3 3] 22) := by
    unfold W6
    repeat (first | (refine heap_at _ _ _ ?_; simp only [World.size_alloc]; done) | (refine (Below.heap_alloc _ _ _ ?_).trans ?_; (· (simp only [World.size_alloc]; omega))))
  have h3 : (W6 w).heap[w.heap.size + 1 + 1 + 1]? = some (.cells #[.int .u8 97, .int .u8 98] 5 (2, 3)) := by
    unfold W6
    repeat (first | (refine heap_at _ _ _ ?_; simp only [World.size_alloc]; done) | (refine (Below.heap_alloc _ _ _ ?_).trans ?_; (· (simp only [World.size_alloc]; omega))))
  have h4 : (W6 w).heap[w.heap.size + 1 + 1 + 1 + 1]? = some (.cells #[.int .u8 99, .int .u8 88, .int .u8 89, .int .u8 101] 5 (4, 5)) := by
    unfold W6
    repeat (first | (refine heap_at _ _ _ ?_; simp only [World.size_alloc]; done) | (refine (Below.heap_alloc _ _ _ ?_).trans ?_; (· (simp only [World.size_alloc]; omega))))
  have h5 : (W6 w).heap[w.heap.size + 1 + 1 + 1 + 1 + 1]? = some (.cells #[.slice (some ⟨w.heap.size + 1 + 1 + 1, 0, none⟩) 2 2, .slice (some ⟨w.heap.size + 1 + 1 + 1 + 1, 0, none⟩) 4 4] 22) := by
    unfold W6
    repeat (first | (refine heap_at _ _ _ ?_; simp only [World.size_alloc]; done) | (refine (Below.heap_alloc _ _ _ ?_).trans ?_; (· (simp only [World.size_alloc]; omega))))
  have t1 := tx_pair (x := [97, 98]) (y := [99, 100, 101]) h2 (by simp [maxLen]) (by simp [maxLen]) (by omega) (by omega) (row_of_heap h0) (row_of_heap h1)
  have t2 := tx_pair (x := [97, 98]) (y := [99, 88, 89, 101]) h5 (by simp [maxLen]) (by simp [maxLen]) (by omega) (by omega) (row_of_heap h3) (row_of_heap h4)
  have hc := between_yes (some ⟨w.heap.size + 1 + 1, 0, none⟩) (some ⟨w.heap.size + 1 + 1 + 1 + 1 + 1, 0, none⟩) 2 2 [[97, 98], [99, 100, 101]] [[97, 98], [99, 88, 89, 101]] (W6 w) rfl (by simp)
    (fun j hj => by match j, hj with | 0, _ => simp | 1, _ => simp) (fun j hj => by match j, hj with | 0, _ => simp | 1, _ => simp) t1 t2
  rw [awakeD] at hc
  refine hc.mono ?_
  rintro e w' ⟨a, c, he, hch, hb⟩
  exact ⟨a, c, he, hch, bl_trans (W6_below w) hb⟩
set_option maxHeartbeats 2000000 in
set_option maxRecDepth 100000 in
theorem awake23_any (w : World) : Calls Tryz.prog 8 #[] w fun e w' => e = .returned (.bool true) ∧ Below w.heap.size w w' := by
  have kc := fun (w : World) (C : Array Value) (n c g : Nat) (hg : g = w.heap.size) => (by
    subst hg
    exact Lib.run_convert_bytes_const (P := Tryz.prog) w 22 5 C n c Tryz.underlying22 Tryz.underlying5 : (convert 22 22 (.slice (some ⟨g, 0, none⟩) n c)).run Tryz.prog (w.alloc (.cells C 5)) = .ok (.slice (some ⟨g, 0, none⟩) n c) (w.alloc (.cells C 5 (C.size, C.size + 1))))
  go_enter Tryz.func8, Tryz.ntmps8
  go_wp2_with fail
  refine (between_awake w).mono ?_
  rintro e w7 ⟨a, c, rfl, hch, hb⟩
  obtain ⟨b, o, oa, oc, na, nc, rfl, _, hbl, k1, k2, k3, k4, _, _, _, _, b3, b4⟩ := hch.nth (i := 0) (by simp)
  have r1 := run_conv b3 22 5 9 Tryz.underlying22 Tryz.underlying5 Tryz.underlying9 oc
  have r2 := run_conv b4 22 5 9 Tryz.underlying22 Tryz.underlying5 Tryz.underlying9 nc
  have hsz := Lib.hid (size_any (some ⟨b, o, none⟩) [⟨1, 1, [100], [88, 89]⟩] c w7 (by simp) (by decide) hch)
  simp only [List.getElem_cons_zero, List.length_cons, List.length_nil, Nat.zero_mul, Nat.add_zero, Nat.zero_add] at k1 k2 k3 k4 r1 r2
  clear kc hch b3 b4
  go_wp2_with (go_at_call 21; refine hsz.out.mono ?_; rintro e w8 ⟨rfl, hb8⟩)
  all_goals go_ret
  all_goals exact ⟨rfl, bl_trans hb hb8⟩
end Go.Proofs.YtepdfkgadigafaaGreatDoor
