/-
  What a book's case has at most; rows of files that are put together; of chapter 32.
  Conditions: as each theorem states them.
-/
import Derived.Test.YtaginadnaajleaaDoorFla
import Derived.Test.YtaginadnaajleaaDoorAwake32
namespace Go.Proofs.YtaginadnaajleaaDoor
open Go.RowKit
set_option linter.unusedVariables false
set_option linter.unusedSimpArgs false
open BM (Cs)
theorem ba_add (a b : List UInt8) : (⟨a.toArray⟩ : ByteArray) ++ ⟨b.toArray⟩ = ⟨(a ++ b).toArray⟩ := by apply ByteArray.ext; simp [ByteArray.data_append]
theorem runS_zero : ∀ (ls : List (List UInt8)) (i : Nat) (c : Cs), (BM.runS i c ls).2.2 = 0 → BM.runS i c ls = ((BM.runS i c ls).1, 0, 0)
  | [], i, c, _ => rfl
  | l :: ls, i, c, h => by
    unfold BM.runS at h ⊢
    split at h
    · rename_i q; rw [if_pos q]; exact runS_zero ls _ _ h
    · rename_i q
      rw [if_neg q]
      split at h
      · rename_i q2; rw [if_pos q2]; exact runS_zero ls _ _ h
      · rename_i q2; exact absurd h q2
theorem parseS_zero {s : List UInt8} {c : Cs} {n e : Int} (h : BM.parseS s = (c, n, e)) (he : e = 0) : n = 0 := by
  subst he
  unfold BM.parseS at h
  split at h
  · injection h with _ h; injection h with _ h; cases h
  · have h2 := runS_zero (BM.linesS s) 0 BM.init (by rw [h])
    rw [h] at h2
    injection h2 with _ h2
    injection h2 with h2 _
/-- the files of a case are short -/
def FShort (c : Cs) : Prop := ∀ p ∈ c.files, p.2.length ≤ 100000
theorem lineS_short {c : Cs} (h : FShort c) (L : List UInt8) (hL : L.length ≤ 100000) : FShort (BM.lineS L c).2 := by
  unfold BM.lineS
  cases hl : BM.look (BM.cut L).1 with
  | none => exact h
  | some f =>
    simp only
    split
    · exact h
    · have hf : f ∈ [BM.sedR, BM.optionR, BM.inputR, BM.fileR, BM.capR, BM.periodR, BM.fuelR, BM.doR] := by
        unfold BM.look at hl
        rw [Option.map_eq_some_iff] at hl
        obtain ⟨p, hp, rfl⟩ := hl
        have := List.mem_of_find?_eq_some hp
        simp only [BM.readers, List.mem_cons, List.not_mem_nil, or_false] at this
        rcases this with rfl | rfl | rfl | rfl | rfl | rfl | rfl | rfl <;> simp
      have hr : (BM.cut L).2.1.length ≤ 100000 := by unfold BM.cut; simp only [List.length_drop]; omega
      generalize (BM.cut L).2.1 = r at *
      simp only [List.mem_cons, List.not_mem_nil, or_false] at hf
      rcases hf with rfl | rfl | rfl | rfl | rfl | rfl | rfl | rfl
      · unfold BM.sedR; split <;> exact h
      · unfold BM.optionR; repeat' split
        all_goals exact h
      · unfold BM.inputR; split <;> exact h
      · unfold BM.fileR
        split
        · exact h
        · split
          · intro p hp
            simp only [List.mem_append, List.mem_cons, List.not_mem_nil, or_false] at hp
            rcases hp with hp | rfl
            · exact h p hp
            · have := quoteAll_le (BM.cut r).2.1
              have h2 : (BM.cut r).2.1.length ≤ r.length := by unfold BM.cut; simp only [List.length_drop]; omega
              show (BM.quoteAll (BM.cut r).2.1).1.length ≤ 100000
              omega
          · exact h
      · unfold BM.capR; split <;> exact h
      · unfold BM.periodR; split <;> exact h
      · unfold BM.fuelR; split <;> exact h
      · exact h
theorem runS_grown : ∀ (ls : List (List UInt8)) (i k : Nat) (c : Cs), Grown k c → FShort c → (∀ l ∈ ls, l.length ≤ 100000) → Grown (k + ls.length) (BM.runS i c ls).1 ∧ FShort (BM.runS i c ls).1
  | [], i, k, c, h, hf, _ => ⟨h, hf⟩
  | l :: ls, i, k, c, h, hf, hl => by
    have e : k + (l :: ls).length = (k + 1) + ls.length := by simp; omega
    rw [e]
    unfold BM.runS
    have hl2 : ∀ l ∈ ls, l.length ≤ 100000 := fun x hx => hl x (List.mem_cons_of_mem _ hx)
    split
    · exact runS_grown ls _ _ _ h.more hf hl2
    · split
      · exact runS_grown ls _ _ _ (lineS_grown h l (hl l List.mem_cons_self)) (lineS_short hf l (hl l List.mem_cons_self)) hl2
      · exact ⟨⟨by simp [BM.zero], by simp [BM.zero], by simp [BM.zero], by simp [BM.zero]⟩, by intro p hp; simp [BM.zero] at hp⟩
theorem parseS_grown {s : List UInt8} (hs : s.length ≤ 100000) {c : Cs} {n e : Int} (h : BM.parseS s = (c, n, e)) : Small c ∧ FShort c := by
  unfold BM.parseS at h
  split at h
  · injection h with h _
    subst h
    exact ⟨⟨by simp [BM.zero], by simp [BM.zero], by simp [BM.zero], by simp [BM.zero]⟩, by intro p hp; simp [BM.zero] at hp⟩
  · obtain ⟨l1, l2⟩ := lines_len s
    have := runS_grown (BM.linesS s) 0 0 BM.init ⟨by simp [BM.init], by simp [BM.init], by simp [BM.init], by simp [BM.init]⟩ (by intro p hp; simp [BM.init] at hp) (fun l hl => Nat.le_trans (l2 l hl) hs)
    rw [h] at this
    exact ⟨this.1.small (by omega), this.2⟩
/-! ### rows of files -/
/-- the cells of a row of files -/
def fileCells (fv : List (List UInt8 × Value)) : List Value := fv.flatMap fun p => [strV p.1, p.2]
theorem fileCells_len : ∀ fv : List (List UInt8 × Value), (fileCells fv).length = fv.length * 2
  | [] => rfl
  | p :: fv => by have := fileCells_len fv; unfold fileCells at this ⊢; rw [List.flatMap_cons, List.length_append, this]; simp; omega
/-- the values of files -/
structure FvAt (w : World) (fv : List (List UInt8 × Value)) (fs : List (List UInt8 × List UInt8)) : Prop where
  len : fv.length = fs.length
  nm : ∀ i (h : i < fs.length) (h' : i < fv.length), fv[i].1 = fs[i].1
  by' : ∀ i (h : i < fs.length) (h' : i < fv.length), BysAt w fv[i].2 fs[i].2
theorem FvAt.below {w w' : World} {fv : List (List UInt8 × Value)} {fs : List (List UInt8 × List UInt8)} (h : FvAt w fv fs) (hb : Below w.heap.size w w') : FvAt w' fv fs := ⟨h.len, h.nm, fun i h1 h2 => (h.by' i h1 h2).below hb⟩
theorem FvAt.append {w : World} {f1 f2 : List (List UInt8 × Value)} {s1 s2 : List (List UInt8 × List UInt8)} (h1 : FvAt w f1 s1) (h2 : FvAt w f2 s2) : FvAt w (f1 ++ f2) (s1 ++ s2) := by
  have e1 := h1.len
  have e2 := h2.len
  refine ⟨by simp [e1, e2], fun i hi hi' => ?_, fun i hi hi' => ?_⟩
  · by_cases hlt : i < s1.length
    · rw [List.getElem_append_left hlt, List.getElem_append_left (by omega)]; exact h1.nm i hlt (by omega)
    · rw [List.getElem_append_right (by omega), List.getElem_append_right (by omega)]
      simp only [e1]
      exact h2.nm _ (by simp at hi; omega) (by simp at hi; omega)
  · by_cases hlt : i < s1.length
    · rw [List.getElem_append_left hlt, List.getElem_append_left (by omega)]; exact h1.by' i hlt (by omega)
    · rw [List.getElem_append_right (by omega), List.getElem_append_right (by omega)]
      simp only [e1]
      exact h2.by' _ (by simp at hi; omega) (by simp at hi; omega)
theorem FvAt.one {w : World} {fv : List (List UInt8 × Value)} {fs : List (List UInt8 × List UInt8)} (h : FvAt w fv fs) : ∀ u ∈ fileCells fv, u.oneCell' = true := by
  intro u hu
  unfold fileCells at hu
  obtain ⟨p, hp, hu⟩ := List.mem_flatMap.1 hu
  obtain ⟨i, hi, rfl⟩ := List.mem_iff_getElem.1 hp
  have hlt : i < fs.length := by have := h.len; omega
  simp only [List.mem_cons, List.not_mem_nil, or_false] at hu
  rcases hu with rfl | rfl
  · rfl
  · obtain ⟨a, c, e, _⟩ := h.by' i hlt hi
    rw [e]; rfl
theorem fil_src {w : World} {v : Value} {fs : List (List UInt8 × List UInt8)} (h : FsAt w v fs) : ∃ fv, FvAt w fv fs ∧ SrcAt w v fs.length (fileCells fv) := by
  obtain ⟨a, c, rfl, h0, h⟩ := h
  by_cases hz : fs.length = 0
  · have : fs = [] := List.eq_nil_of_length_eq_zero hz
    subst this
    refine ⟨[], ⟨rfl, fun i h => by simp at h, fun i h => by simp at h⟩, a, c, rfl, h0, fun ad e j u hu => by simp [fileCells] at hu⟩
  · obtain ⟨b, o, rfl, hb, hr⟩ := h (by omega)
    have hex : ∀ i : Fin fs.length, ∃ u, w.cell? ⟨b, o + i.1 * 2 + 1, none⟩ = some u ∧ BysAt w u fs[i.1].2 := fun i => (hr i.1 i.2).2
    let f : Fin fs.length → List UInt8 × Value := fun i => (fs[i.1].1, Classical.choose (hex i))
    have hfl : (List.ofFn f).length = fs.length := by simp
    refine ⟨List.ofFn f, ⟨hfl, fun i hi hi' => by simp [f], fun i hi hi' => ?_⟩, some ⟨b, o, none⟩, c, rfl, (fun e => by cases e), fun ad e j u hu => ?_⟩
    · simp only [List.getElem_ofFn, f]
      exact (Classical.choose_spec (hex ⟨i, hi⟩)).2
    · cases e
      have hj : j < (fileCells (List.ofFn f)).length := (List.getElem?_eq_some_iff.1 hu).1
      rw [fileCells_len, hfl] at hj
      have e1 : (⟨b, o, none⟩ : Addr).add j = ⟨b, o + j, none⟩ := by unfold Addr.add; by_cases h0 : j = 0 <;> simp [h0]
      rw [e1]
      have hi : j / 2 < fs.length := by omega
      obtain ⟨f1, f2⟩ := flat2 (fun p : List UInt8 × Value => strV p.1) (fun p => p.2) (List.ofFn f) (j / 2) (by omega)
      rcases Nat.mod_two_eq_zero_or_one j with hm | hm
      · have e2 : j = j / 2 * 2 := by omega
        have hu' : some (strV (List.ofFn f)[j / 2].1) = some u := by rw [← f1, ← e2]; exact hu
        cases hu'
        have h3 := (hr (j / 2) hi).1
        rw [← e2] at h3
        rw [h3]; simp [f]
      · have e2 : j = j / 2 * 2 + 1 := by omega
        have hu' : some ((List.ofFn f)[j / 2].2) = some u := by rw [← f2, ← e2]; exact hu
        cases hu'
        have h3 := (Classical.choose_spec (hex ⟨j / 2, hi⟩)).1
        rw [show o + j = o + j / 2 * 2 + 1 by omega, h3]
        simp [f]
theorem fil_own {w : World} {B : Nat} {v : Value} {fv : List (List UInt8 × Value)} {fs : List (List UInt8 × List UInt8)} (h : w.ownsRow B 52 2 v fs.length (fileCells fv)) (hf : FvAt w fv fs) : FsAt w v fs := by
  obtain ⟨a, c, rfl, h0, hr⟩ := own_rows h
  refine ⟨a, c, rfl, h0, fun hn => ?_⟩
  obtain ⟨b, rfl, hb, hc⟩ := hr hn
  refine ⟨b, 0, rfl, hb, fun i hi => ?_⟩
  have hi' : i < fv.length := by have := hf.len; omega
  obtain ⟨f1, f2⟩ := flat2 (fun p : List UInt8 × Value => strV p.1) (fun p => p.2) fv i hi'
  refine ⟨?_, fv[i].2, ?_, hf.by' i hi hi'⟩
  · rw [Nat.zero_add, ← hf.nm i hi hi']; exact hc _ _ f1
  · rw [Nat.zero_add]; exact hc _ _ f2
end Go.Proofs.YtaginadnaajleaaDoor
/-
  What Parse tells of a book; of chapter 32.
  Conditions: as each theorem states them.
-/
namespace Go.Proofs.YtaginadnaajleaaDoor
open Go.RowKit
set_option linter.unusedVariables false
set_option linter.unusedSimpArgs false
open BM (Cs)
/-- a case as it is told -/
def ParsedAs (c : Cs) (n e : Int) (w : World) (en : Ending) (w' : World) : Prop := ∃ sa sc ia ic fa fc la lc, en = .returned (.tuple #[.agg #[.slice sa c.sed.length sc, .bool c.quiet, .bool c.separate, .bool c.place, .bool c.extended, .slice ia c.inputs.length ic, .slice fa c.files.length fc, .int .i64 c.cap, .int .i64 c.period, .int .i64 c.fuel, .slice la c.lines.length lc], .int .i64 n, .int .i64 e]) ∧ CsAt w' c (.slice sa c.sed.length sc) (.slice ia c.inputs.length ic) (.slice fa c.files.length fc) (.slice la c.lines.length lc) ∧ Below w.heap.size w w'
theorem parse_read (s : List UInt8) (hl : s.length ≤ 100000) {c : Cs} {n e : Int} (h : BM.parseS s = (c, n, e)) (w : World) : Calls Tryd.prog 8 #[strV s] w (ParsedAs c n e w) := by
  have hp := parse_any s hl w
  rw [h] at hp
  refine hp.mono fun en w' he => ?_
  obtain ⟨vs, vi, vf, vl, fv, g, base, rfl, hC, hg, hb⟩ := he
  have hr := hC.read
  obtain ⟨sa, sc, h1⟩ := own_slice hC.sed
  obtain ⟨ia, ic, h2⟩ := own_slice hC.inp
  obtain ⟨fa, fc, h3⟩ := own_slice hC.fil
  obtain ⟨la, lc, h4⟩ := own_slice hC.lin
  subst h1 h2 h3 h4
  exact ⟨sa, sc, ia, ic, fa, fc, la, lc, rfl, hr, hb⟩
end Go.Proofs.YtaginadnaajleaaDoor
