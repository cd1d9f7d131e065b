/-
  How changes lie in memory as data, and the contract of the law's 'of' (changes, as the program has them), of chapter 23.
  Conditions: as each theorem states them.
-/
import Derived.Test.YtfbimghnimepjaaBld
import Derived.Test.YtfbimghnimepjaaDel7
import Derived.Deep.RegionHeld3
import Derived.Deep.DrawnRows
namespace Go.Proofs.Ytfbimghnimepjaa
open Go.RowKit
set_option linter.unusedVariables false
set_option linter.unusedSimpArgs false
abbrev rChg0 : Rp (Int × Int × List UInt8 × List UInt8 × Unit) := rPair (rInt .i64) (rPair (rInt .i64) (rPair (rSl rByte) (rPair (rSl rByte) rUnit)))
def chg0 (c : DM.Chg) : Int × Int × List UInt8 × List UInt8 × Unit := (c.field, c.pos, c.old, c.new, ())
def rChg : Rp DM.Chg := rBy rChg0 chg0
theorem ByAt.of_sub {S : Sub} {w : World} (hS : S.In w) {v : Value} {xs : List UInt8} (h : (rSl rByte).ok S [v] xs) : ∃ a c, v = .slice a xs.length c ∧ xs.length ≤ c ∧ c ≤ maxLen ∧ ByAt (fun b => S b ≠ none) false w a xs := by
  obtain ⟨a, c, e, h1, h2, h3⟩ := h
  refine ⟨a, c, by simpa using e, h1, h2, fun h0 => ?_⟩
  obtain ⟨b, o, e, hr⟩ := h3 h0
  obtain ⟨cs, hok, hat⟩ := hr 0 h0
  obtain ⟨c, e', fr, hb, _⟩ := hat
  exact ⟨b, o, e, (fun hq => by rw [hb] at hq; cases hq), hS.lt hb, fun x => (Bool.false_ne_true x).elim, hr.bytes hS⟩
theorem rChg_cells {S : Sub} {cs : List Value} {x : DM.Chg} (h : rChg.ok S cs x) : ∃ v1 v2, cs = [.int .i64 x.field, .int .i64 x.pos, v1, v2] ∧ (rSl rByte).ok S [v1] x.old ∧ (rSl rByte).ok S [v2] x.new := by
  obtain ⟨c1, c2, rfl, ⟨rfl, _⟩, c3, c4, rfl, ⟨rfl, _⟩, c5, c6, rfl, h5, c7, c8, rfl, h7, h8⟩ := h
  obtain ⟨v1, rfl⟩ : ∃ v, c5 = [v] := List.length_eq_one_iff.1 ((rSl rByte).len h5)
  obtain ⟨v2, rfl⟩ : ∃ v, c7 = [v] := List.length_eq_one_iff.1 ((rSl rByte).len h7)
  have h8' : c8 = [] := h8
  subst h8'
  exact ⟨v1, v2, rfl, h5, h7⟩
theorem rChg_ok {S : Sub} {f p : Int} {v1 v2 : Value} {old new : List UInt8} (hf : (Lit.int .i64 f).wf = true) (hp : (Lit.int .i64 p).wf = true) (h1 : (rSl rByte).ok S [v1] old) (h2 : (rSl rByte).ok S [v2] new) : rChg.ok S [.int .i64 f, .int .i64 p, v1, v2] ⟨f, p, old, new⟩ :=
  ⟨[.int .i64 f], [.int .i64 p, v1, v2], rfl, ⟨rfl, hf⟩, [.int .i64 p], [v1, v2], rfl, ⟨rfl, hp⟩, [v1], [v2], rfl, h1, [v2], [], rfl, h2, rfl⟩
theorem rChg_n : rChg.n = 4 := rfl
theorem ChAt.of_sub {S : Sub} {w : World} (hS : S.In w) {v : Value} {ds : List DM.Chg} (h : (rSl rChg).ok S [v] ds) : ∃ a c, v = .slice a ds.length c ∧ ds.length ≤ c ∧ c ≤ maxLen ∧ ChAt (fun b => S b ≠ none) w a ds := by
  obtain ⟨a, c, e, h1, h2, h3⟩ := h
  refine ⟨a, c, by simpa using e, h1, h2, fun h0 => ?_⟩
  obtain ⟨b, o, e, hr⟩ := h3 h0
  obtain ⟨cs0, hok0, hat0⟩ := hr 0 h0
  obtain ⟨c', e', fr, hb, _⟩ := id hat0
  refine ⟨b, o, e, (fun hq => by rw [hb] at hq; cases hq), hS.lt hb, fun i hi => ?_⟩
  obtain ⟨cs, hok, hat⟩ := hr i hi
  obtain ⟨v1, v2, rfl, h5, h6⟩ := rChg_cells hok
  obtain ⟨a1, c1, rfl, q1, q2, q3⟩ := ByAt.of_sub hS h5
  obtain ⟨a2, c2, rfl, q4, q5, q6⟩ := ByAt.of_sub hS h6
  have k0 := hat.cell hS (j := 0) (by simp)
  have k1 := hat.cell hS (j := 1) (by simp)
  have k2 := hat.cell hS (j := 2) (by simp)
  have k3 := hat.cell hS (j := 3) (by simp)
  rw [rChg_n] at k0 k1 k2 k3
  exact ⟨by simpa using k0, by simpa using k1, ⟨a1, c1, by simpa using k2, q1, q2, q3⟩, ⟨a2, c2, by simpa using k3, q4, q5, q6⟩⟩
theorem ChAt.any {K : Nat → Prop} {w : World} {a : Option Addr} {ds : List DM.Chg} (h : ChAt K w a ds) : ChAt (fun _ => True) w a ds := h.mono (fun _ _ => trivial)
/-- a fresh row of bytes, frozen -/
theorem freeze_bytes {S : Sub} {w w' : World} (hS : S.In w) {v : Value} {xs : List UInt8} (ho : w'.ownsRow w.heap.size 5 1 v xs.length (xs.map bv)) (hb : Below w.heap.size w w') : ∃ T, Grow S w T w' ∧ (rSl rByte).ok T [v] xs := by
  have e : (xs.map fun x => [bv x]).flatten = xs.map bv := by induction xs with
    | nil => rfl
    | cons x xs ih => 
      simp only [List.map_cons, List.flatten_cons, List.singleton_append]
      congr 1
      clear ho ih
      induction xs with
      | nil => rfl
      | cons y ys ih => simp only [List.map_cons, List.flatten_cons, List.singleton_append, ih]
  obtain ⟨T, h1, h2, h3, h4⟩ := freeze (A := rByte) (css := xs.map fun x => [bv x]) (hS.below hb) (by rw [e]; exact ho) (by simp) (fun i hi => by show _ = _; simp [bv]) (fun g e => hS.none (ho.lt g e).1)
  exact ⟨T, ⟨hb, h1, h2, fun b hb' => h3 b (fun e => by have := (ho.lt b e).1; omega)⟩, h4⟩
theorem rSl_form {α : Type} {A : Rp α} {S : Sub} {v : Value} {xs : List α} (h : (rSl A).ok S [v] xs) : ∃ a c, v = .slice a xs.length c := by
  obtain ⟨a, c, e, _⟩ := h
  exact ⟨a, c, by simpa using e⟩
theorem rcopyS {S : Sub} {w : World} (hS : S.In w) (ba : Option Addr) (bc : Nat) (xs : List UInt8) (hl : xs.length ≤ 1000000) (hs : ByAt (fun _ => True) false w ba xs) :
    Calls Try.prog 77 #[.slice ba xs.length bc] w fun e w' => ∃ a c T, e = .returned (.slice a xs.length c) ∧ Grow S w T w' ∧ (rSl rByte).ok T [.slice a xs.length c] xs :=
  (rcopy_any ba bc xs w hl hs).mono fun e w' ⟨v, he, ho, hb⟩ => let ⟨T, h1, h2⟩ := freeze_bytes hS ho hb; let ⟨a, c, e1⟩ := rSl_form h2; ⟨a, c, T, by rw [he, e1], h1, by rw [← e1]; exact h2⟩
theorem cloneS {S : Sub} {w : World} (hS : S.In w) (ba : Option Addr) (bc : Nat) (xs : List UInt8) (hl : xs.length ≤ 1000000) (hs : ByAt (fun _ => True) false w ba xs) :
    Calls Try.prog 72 #[.slice ba xs.length bc] w fun e w' => ∃ a c T, e = .returned (.slice a xs.length c) ∧ Grow S w T w' ∧ (rSl rByte).ok T [.slice a xs.length c] xs :=
  (clone_any ba bc xs w hl hs).mono fun e w' ⟨v, he, ho, hb⟩ => let ⟨T, h1, h2⟩ := freeze_bytes hS ho hb; let ⟨a, c, e1⟩ := rSl_form h2; ⟨a, c, T, by rw [he, e1], h1, by rw [← e1]; exact h2⟩
theorem infoCh_ : (Try.prog.info? 116).map (fun i => (i.zero, i.size, i.bytes)) = some (some (.agg #[.int .i64 0, .int .i64 0, .slice none 0 0, .slice none 0 0]), 4, 64) := by kernel_rfl
def WfCh (ds : List DM.Chg) : Prop := ∀ i (h : i < ds.length), (Lit.int .i64 ds[i].field).wf = true ∧ (Lit.int .i64 ds[i].pos).wf = true
theorem take_snoc {α : Type} {l : List α} {k : Nat} (h : k < l.length) : l.take (k + 1) = l.take k ++ [l[k]] := List.take_succ_eq_append_getElem h
theorem lies_own' {v : Value} {w : World} {o : Obj} {g n c : Nat} (h : v.ownBlock = some g ∨ g = w.heap.size + 1) : ∀ k, (Value.slice (some ⟨g, 0, none⟩) n c).ownBlock = some k → v.ownBlock = some k ∨ (w.alloc o).heap.size ≤ k := fun k e => by
  rw [World.size_alloc]; exact lies_own h k e
theorem one4 (f p : Int) (a b : Option Addr) (n c m d : Nat) : ∀ u ∈ [Value.int .i64 f, .int .i64 p, .slice a n c, .slice b m d], u.oneCell' = true := by
  intro u hu
  simp only [List.mem_cons, List.not_mem_nil, or_false] at hu
  rcases hu with rfl | rfl | rfl | rfl <;> rfl
attribute [local go_sem ↓] Go.wp_at_zero Go.wp_at_succ
set_option maxHeartbeats 4000000 in
set_option maxRecDepth 100000 in
theorem of_any (la : Option Addr) (lc : Nat) (ds : List DM.Chg) (w : World) (hd : ds.length ≤ 1000) (hwf : WfCh ds) (hds : ∀ i (h : i < ds.length), ds[i].old.length ≤ 1000000 ∧ ds[i].new.length ≤ 1000000) (h1 : ChAt (fun _ => True) w la ds) :
    Calls Try.prog 50 #[.slice la ds.length lc] w fun e w' => ∃ a c, e = .returned (.slice a ds.length c) ∧ ChAt (fun _ => True) w' a ds ∧ Below w.heap.size w w' := by
  obtain ⟨i0, hi, hz0, hz1, hz2⟩ := info_parts infoCh_
  have h0 : Bld rChg w.heap.size 116 (fun _ => none) w (.slice none 0 0) [] [] := Bld.nil (fun b o h => by cases h)
  replace h0 := Lib.hid h0
  replace h1 := Lib.hid h1
  replace hds := Lib.hid hds
  replace hwf := Lib.hid hwf
  go_enter Try.func50, Try.ntmps50
  go_wp2_with fail
  go_loopw [3, 4] (fun v i wr => ∃ (k : Nat) (S : Sub) (css : List (List Value)), i = .int .i64 (k : Int) ∧ k ≤ ds.length ∧ Bld rChg w.heap.size 116 S wr v (ds.take k) css ∧ Below w.heap.size w wr) (fun _ i _ => ds.length - (intOf i).toNat)
  case atStart => exact ⟨0, _, _, rfl, by omega, h0.out, Below.refl _ _⟩
  case round =>
    obtain ⟨k, S, css, rfl, hk, hB, hbr⟩ := hrel
    by_cases hlt : k < ds.length
    · obtain ⟨b, o, oa, oc, na, nc, rfl, hbK, _, k1, k2, k3, k4, _, _, _, _, b3, b4⟩ := h1.out.lt.nth hlt
      have hbl := hbK.2
      obtain ⟨l1, l2⟩ := hds.out k hlt
      have f12 := Lib.hid (hwf.out k hlt)
      have hts := take_snoc hlt
      have htl : (ds.take k).length = k := by simp; omega
      generalize ds.take k = ts at *
      have htl2 : ts.length ≤ 1000 := by omega
      have m1 : ts.length + 1 ≤ maxLen := by unfold maxLen; omega
      have m2 : (ts.length + 1) * 64 ≤ 140737488355328 := by omega
      have hbd := bl_drew hbr
      have hc1 := Lib.hid (rcopyS (S := S) (w := wr.drew) hB.inn oa oc ds[k].old l1 (b3.any.below hbd))
      have hc2 := Lib.hid (fun (T : Sub) (w5 : World) (hb5 : Below w.heap.size w w5) (hg : Grow S wr.drew T w5) => rcopyS (S := T) (w := w5) hg.inn na nc ds[k].new l2 (b4.any.below hb5))
      have kk := Lib.hid (fun (W' : World) (hb : Below w.heap.size w W') => (⟨(hb.cell (p := ⟨b, o + k * 4, none⟩) hbl).trans k1, (hb.cell (p := ⟨b, o + k * 4 + 1, none⟩) hbl).trans k2, (hb.cell (p := ⟨b, o + k * 4 + 2, none⟩) hbl).trans k3, (hb.cell (p := ⟨b, o + k * 4 + 3, none⟩) hbl).trans k4⟩ : W'.cell? ⟨b, o + k * 4, none⟩ = some (.int .i64 ds[k].field) ∧ W'.cell? ⟨b, o + k * 4 + 1, none⟩ = some (.int .i64 ds[k].pos) ∧ W'.cell? ⟨b, o + k * 4 + 2, none⟩ = some (.slice oa ds[k].old.length oc) ∧ W'.cell? ⟨b, o + k * 4 + 3, none⟩ = some (.slice na ds[k].new.length nc)))
      have hkI : (k : Int) < ds.length := by omega
      have hBd := hB.below (w' := wr.drew) (bl_drew (Below.refl _ _))
      have hvo := fun (T5 T6 : Sub) (w5 w6 : World) (hg5 : Grow S wr.drew T5 w5) (hg6 : Grow T5 w5 T6 w6) (o : Obj) => ((hBd.grow hg5).grow hg6).below (w' := w6.alloc o) (bl_alloc (Below.refl _ _) o)
      replace hBd := Lib.hid hBd
      replace hvo := Lib.hid hvo
      replace hts := Lib.hid hts
      replace htl := Lib.hid htl
      clear hB k1 k2 k3 k4 b3 b4 l1 l2
      go_wp2_with fail
      go_region_held3 (fun w' => w'.cell? ⟨b, o + k * 4, none⟩ = some (.int .i64 ds[k].field) ∧ w'.cell? ⟨b, o + k * 4 + 1, none⟩ = some (.int .i64 ds[k].pos) ∧ w'.cell? ⟨b, o + k * 4 + 2, none⟩ = some (.slice oa ds[k].old.length oc) ∧ w'.cell? ⟨b, o + k * 4 + 3, none⟩ = some (.slice na ds[k].new.length nc)) (first | exact kk.out _ hbd | exact kk.out _ hs7 | exact kk.out _ (bl_alloc hs6 _) | exact kk.out _ hs6 | exact kk.out _ hs5)
        (first
        | (go_at_call 77; ((with_reducible refine hc1.out.mono ?_); rintro e w5 ⟨a5, c5, T5, rfl, hg5, ok5⟩; have hs5 := bl_trans hbd hg5.below; replace hg5 := Lib.hid hg5; replace ok5 := Lib.hid ok5))
        | (go_at_call 77; ((with_reducible refine (hc2.out _ _ hs5 hg5.out).mono ?_); rintro e w6 ⟨a6, c6, T6, rfl, hg6, ok6⟩; have hs6 := bl_trans hs5 hg6.below; replace hg6 := Lib.hid hg6; replace ok6 := Lib.hid ok6))
        | (have hB6 := hvo.out T5 T6 w5 w6 hg5.out hg6.out (.cells #[.int .i64 ds[k].field, .int .i64 ds[k].pos, .slice a5 ds[k].old.length c5, .slice a6 ds[k].new.length c6] 116); refine step_append_lies _ (by rfl) (.tmp 11) (.tmp 35) 87 (by rfl) w.heap.size 116 i0 _ 4 64 Try.underlying87 hi hz0 hz1 hz2 (by rfl) (Nat.zero_lt_succ 3) _ ts.length _ (by rfl) hB6.own ⟨w6.heap.size, 0, none⟩ 1 1 [.int .i64 ds[k].field, .int .i64 ds[k].pos, .slice a5 ds[k].old.length c5, .slice a6 ds[k].new.length c6] (by rfl) (by rfl) (World.news_of_block (heap_alloc_new w6 _)) (one4 _ _ _ _ _ _ _ _) Nat.zero_lt_one m1 m2 (bl_alloc hs6 _).size (w6.heap.size + 1) (World.size_alloc _ _) ?_; intro g cap w7 hown7 hgrow7 hat7 hlt7; have hs7 := (bl_alloc hs6 _).grown hgrow7 (bl_alloc hs6 _).size (fun j hj => (hB6.own.lt j hj).1); have hB7 := hB6.snoc (x := ds[k]) (rChg_ok f12.out.1 f12.out.2 ((rSl rByte).mono hg6.out.le ok5.out) ok6.out) hown7 rfl hgrow7 (lies_own' hat7); replace hB7 := Lib.hid hB7; clear hB6 hown7 hat7))
      all_goals go_wp2_with fail
      all_goals go_roundw
      case measure => simp [intOf]; omega
      case rel => exact ⟨k + 1, T6, _, by go_num, by omega, by rw [hts.out]; exact hB7.out, hs7⟩
    · obtain rfl : k = ds.length := by omega
      rw [List.take_length] at hB
      obtain ⟨a, c, rfl, _⟩ := hB.form
      obtain ⟨T, _, hTin, _, hT⟩ := hB.done
      obtain ⟨a', c', e, _, _, hch⟩ := ChAt.of_sub hTin hT
      obtain ⟨rfl, _, rfl⟩ : a = a' ∧ True ∧ c = c' := by injection e with e1 e2 e3; exact ⟨e1, trivial, e3⟩
      replace hch := Lib.hid hch
      clear hB hT e
      go_wp2_with fail
      all_goals go_ret
      all_goals exact ⟨a, c, rfl, hch.out.any, hbr⟩
end Go.Proofs.Ytfbimghnimepjaa
