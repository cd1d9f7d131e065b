/-
  The contract of the law's copied, and texts that are written into byte by byte, of chapter 23.
  Conditions: as each theorem states them.
-/
import Derived.Test.YtfbimghnimepjaaDelC
import Derived.Test.YtfbimghnimepjaaDelW
namespace Go.Proofs.Ytfbimghnimepjaa
open Go.RowKit
set_option linter.unusedVariables false
set_option linter.unusedSimpArgs false
theorem Sub.In.le_all {S : Sub} {w : World} (h : S.In w) : S.le (Sub.all w) := fun b o e => h b o e
set_option maxHeartbeats 4000000 in
set_option maxRecDepth 100000 in
theorem lcopied_any (la : Option Addr) (lc : Nat) (xs : List (List UInt8)) (w : World) (hn : xs.length ≤ 1000) (hx : Lens 1000000 xs) (h1 : TxAt (fun _ => True) false w la xs) :
    Calls Try.prog 51 #[.slice la xs.length lc] w fun e w' => ∃ a c, e = .returned (.slice a xs.length c) ∧ TxAt (fun _ => True) false w' a xs ∧ Below w.heap.size w w' := by
  obtain ⟨i0, hi, hz0, hz1, hz2⟩ := info_parts info73_
  have h0 : Bld (rSl rByte) w.heap.size 73 (fun _ => none) w (.slice none 0 0) [] [] := Bld.nil (fun b o h => by cases h)
  replace h0 := Lib.hid h0
  replace h1 := Lib.hid h1
  replace hx := Lib.hid hx
  go_enter Try.func51, Try.ntmps51
  go_wp2_with fail
  go_loopw [3, 4] (fun v i wr => ∃ (k : Nat) (S : Sub) (css : List (List Value)), i = .int .i64 (k : Int) ∧ k ≤ xs.length ∧ Bld (rSl rByte) w.heap.size 73 S wr v (xs.take k) css ∧ Below w.heap.size w wr) (fun _ i _ => xs.length - (intOf i).toNat)
  case atStart => exact ⟨0, _, _, rfl, by omega, h0.out, Below.refl _ _⟩
  case round =>
    obtain ⟨k, S, css, rfl, hk, hB, hbr⟩ := hrel
    by_cases hlt : k < xs.length
    · obtain ⟨b, o, xa, xc, rfl, c1w, x1, x2, hX⟩ := h1.out.nth hlt
      have l1 := World.block_lt_of_cell? w _ c1w
      have c1 := (hbr.cell (p := ⟨b, o + k, none⟩) l1).trans c1w
      have lx := hx.out k hlt
      have hts := take_snoc hlt
      have htl : (xs.take k).length = k := by simp; omega
      generalize xs.take k = ts at *
      have htl2 : ts.length ≤ 1000 := by omega
      have m1 : ts.length + 1 ≤ maxLen := by unfold maxLen; omega
      have m2 : (ts.length + 1) * 24 ≤ 140737488355328 := by omega
      have hc1 := Lib.hid (rcopyS (S := S) (w := wr) hB.inn xa xc xs[k] lx (hX.any.below hbr))
      replace hB := Lib.hid hB
      replace hts := Lib.hid hts
      replace htl := Lib.hid htl
      clear hX c1w
      go_wp2_with (first
        | (go_at_call 77; refine hc1.out.mono ?_; rintro e w5 ⟨a5, c5, T5, rfl, hg5, ok5⟩; have hs5 := bl_trans hbr hg5.below; replace hg5 := Lib.hid hg5; replace ok5 := Lib.hid ok5)
        | (at_builtin; have hB6 := (hB.out.grow hg5.out).below (w' := w5.alloc (.cells #[.slice a5 xs[k].length c5] 73)) (bl_alloc (Below.refl _ _) _); refine wpList_append_lies _ rfl (.tmp 11) (.tmp 17) 69 rfl w.heap.size 73 i0 _ 1 24 Try.underlying69 hi hz0 hz1 hz2 rfl Nat.zero_lt_one _ ts.length _ rfl hB6.own ⟨w5.heap.size, 0, none⟩ 1 1 [.slice a5 xs[k].length c5] rfl rfl (World.news_of_block (heap_alloc_new w5 _)) (by intro u hu; rw [List.mem_singleton] at hu; subst hu; rfl) Nat.zero_lt_one m1 m2 (bl_alloc hs5 _).size (w5.heap.size + 1) (World.size_alloc _ _) ?_; intro g cap w7 hown7 hgrow7 hat7 hlt7; have hs7 := (bl_alloc hs5 _).grown hgrow7 (bl_alloc hs5 _).size (fun j hj => (hB6.own.lt j hj).1); have hB7 := hB6.snoc (x := xs[k]) ok5.out hown7 rfl hgrow7 (lies_own' hat7); replace hB7 := Lib.hid hB7; clear hB6 hown7 hat7))
      all_goals go_roundw
      case measure => simp [intOf]; omega
      case rel => exact ⟨k + 1, T5, _, by go_num, by omega, by rw [hts.out]; exact hB7.out, hs7⟩
    · obtain rfl : k = xs.length := by omega
      rw [List.take_length] at hB
      obtain ⟨a, c, rfl, _⟩ := hB.form
      obtain ⟨T, _, hTin, _, hT⟩ := hB.done
      obtain ⟨a', c', e, _, _, hch⟩ := TxAt.of_ok ((rSl (rSl rByte)).mono hTin.le_all hT)
      obtain ⟨rfl, _, rfl⟩ : a = a' ∧ True ∧ c = c' := by injection e with e1 e2 e3; exact ⟨e1, trivial, e3⟩
      replace hch := Lib.hid hch
      clear hB hT e
      go_wp2_with fail
      all_goals go_ret
      all_goals exact ⟨a, c, rfl, hch.out, hbr⟩
/-- rows of bytes that may be written into, apart from the row that holds them -/
def WrAt (B : Nat) (w : World) (a : Option Addr) (xs : List (List UInt8)) : Prop :=
  0 < xs.length → ∃ g, a = some ⟨g, 0, none⟩ ∧ B ≤ g ∧ ∀ i (h : i < xs.length), ∃ xa c, w.cell? ⟨g, i, none⟩ = some (.slice xa xs[i].length c) ∧
    (0 < xs[i].length → ∃ b o, xa = some ⟨b, o, none⟩ ∧ B ≤ b ∧ b ≠ g ∧ ∀ j, j < xs[i].length → w.frozen? ⟨b, o + j, none⟩ = false ∧ ∃ n : Int, w.cell? ⟨b, o + j, none⟩ = some (.int .u8 n))
theorem WrAt.of {B : Nat} {w : World} {a : Option Addr} {xs : List (List UInt8)} (h : OutAt (fun b => B ≤ b) true w a xs) : WrAt B w a xs := fun h0 => by
  obtain ⟨g, e, kg, lg, fg, rg⟩ := h h0
  refine ⟨g, e, kg, fun i hi => ?_⟩
  obtain ⟨xa, c, c1, _, _, hB⟩ := rg i hi
  refine ⟨xa, c, c1, fun hp => ?_⟩
  obtain ⟨b, o, e, kb, lb, f, r⟩ := hB hp
  exact ⟨b, o, e, kb.1, kb.2, fun j hj => ⟨f rfl j hj, _, r j hj⟩⟩
theorem WrAt.set {B : Nat} {w : World} {g : Nat} {xs : List (List UInt8)} (h : WrAt B w (some ⟨g, 0, none⟩) xs) {b o : Nat} (hb : b ≠ g) (n : Int) : WrAt B (w.setCell ⟨b, o, none⟩ (.int .u8 n)) (some ⟨g, 0, none⟩) xs := fun h0 => by
  obtain ⟨g', e, kg, rg⟩ := h h0
  obtain rfl : g = g' := by injection e with e; injection e
  refine ⟨g, rfl, kg, fun i hi => ?_⟩
  obtain ⟨xa, c, c1, r⟩ := rg i hi
  refine ⟨xa, c, ?_, fun hp => ?_⟩
  · rw [World.cell?_setCell_far _ _ _ _ (fun e => hb e)]; exact c1
  · obtain ⟨b', o', e', kb, nb, r'⟩ := r hp
    refine ⟨b', o', e', kb, nb, fun j hj => ?_⟩
    obtain ⟨f, m, hm⟩ := r' j hj
    refine ⟨by rw [World.frozen?_setCell]; exact f, ?_⟩
    by_cases e2 : b = b' ∧ o = o' + j
    · obtain ⟨rfl, rfl⟩ := e2
      exact ⟨n, World.cell?_setCell_same _ _ _ hm⟩
    · exact ⟨m, by rw [World.cell?_setCell_other _ _ _ _ (by intro e; injection e with e3 e4; exact e2 ⟨e3, e4⟩)]; exact hm⟩
theorem WrAt.nth {B : Nat} {w : World} {a : Option Addr} {xs : List (List UInt8)} (h : WrAt B w a xs) {i : Nat} (hi : i < xs.length) : ∃ g xa c, a = some ⟨g, 0, none⟩ ∧ w.cell? ⟨g, i, none⟩ = some (.slice xa xs[i].length c) ∧
    ∀ j, j < xs[i].length → ∃ b o n, xa = some ⟨b, o, none⟩ ∧ B ≤ b ∧ b ≠ g ∧ w.frozen? ⟨b, o + j, none⟩ = false ∧ w.cell? ⟨b, o + j, none⟩ = some (.int .u8 n) := by
  obtain ⟨g, e, kg, rg⟩ := h (by omega)
  obtain ⟨xa, c, c1, r⟩ := rg i hi
  refine ⟨g, xa, c, e, c1, fun j hj => ?_⟩
  obtain ⟨b, o, e', kb, nb, r'⟩ := r (by omega)
  obtain ⟨f, m, hm⟩ := r' j hj
  exact ⟨b, o, m, e', kb, nb, f, hm⟩
/-- Apply's answer, whether it fits or not -/
theorem Applied.both {xs : Option (List (List UInt8))} {w w' : World} {e : Ending} (h : Applied xs w e w') : ∃ a c, e = .returned (.tuple #[.slice a (xs.getD []).length c, .bool xs.isSome]) ∧ OutAt (fun b => w.heap.size ≤ b) true w' a (xs.getD []) ∧ Below w.heap.size w w' := by
  cases xs with
  | none => exact ⟨none, 0, h.1, fun h0 => absurd h0 (by simp), h.2⟩
  | some ys => exact h
theorem RApplied.both {xs : Option (List (List UInt8))} {w w' : World} {e : Ending} (h : RApplied xs w e w') : ∃ a c, e = .returned (.tuple #[.slice a (xs.getD []).length c, .bool xs.isSome]) ∧ TxAt (fun _ => True) false w' a (xs.getD []) ∧ Below w.heap.size w w' := by
  cases xs with
  | none => exact ⟨none, 0, h.1, fun h0 => absurd h0 (by simp), h.2⟩
  | some ys => exact h
theorem put_length {xs ys : List (List UInt8)} {c : DM.Chg} (h : DM.put xs c = some ys) : ys.length = xs.length := by
  unfold DM.put at h
  split at h
  · injection h with h; subst h; simp
  · cases h
theorem getD_lens {ds : List DM.Chg} {xs : List (List UInt8)} (hx : Lens 200 xs) (hn : xs.length ≤ 20) (hc : ∀ c ∈ ds, c.new.length ≤ 200) (hd : ds.length ≤ 20) : Lens 10000 ((DM.apply ds xs).getD []) ∧ ((DM.apply ds xs).getD []).length ≤ 20 := by
  rcases h : DM.apply ds xs with _ | ys
  · exact ⟨fun i hi => by simp at hi, by simp⟩
  · obtain ⟨h1, h2⟩ := apply_lens h hx hc
    simp only [Option.getD_some]
    exact ⟨fun i hi => by have := h1 i hi; omega, by omega⟩
end Go.Proofs.Ytfbimghnimepjaa
