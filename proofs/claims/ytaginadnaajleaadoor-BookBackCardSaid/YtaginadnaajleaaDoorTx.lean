/-
  The rows of a case's book: show.Row, and what puts a row behind the others; of chapter 32.
  Conditions: as each theorem states them.
-/
import Derived.Test.YtaginadnaajleaaDoorRl
import Derived.Test.YtaginadnaajleaaDoorText
import Derived.Deep.RegionLaw
import Derived.Test.YtaginadnaajleaaDoorCmp2
import Derived.Test.YtaginadnaajleaaDoorJn
import Derived.Test.YtaginadnaajleaaDoorBookT
namespace Go.Proofs.YtaginadnaajleaaDoor
open Go.RowKit
set_option linter.unusedVariables false
set_option linter.unusedSimpArgs false
open BM (Cs)
/-- words with a blank between -/
def rowS (ws : List (List UInt8)) : List UInt8 := Lib.join ws [32]
theorem rowS_two (a b : List UInt8) : rowS [a, b] = a ++ 32 :: b := by unfold rowS; rw [Lib.join_cons]; simp [Lib.joinTail]
theorem rowS_three (a b c : List UInt8) : rowS [a, b, c] = a ++ 32 :: (b ++ 32 :: c) := by unfold rowS; rw [Lib.join_cons]; simp [Lib.joinTail]
theorem map_list (ws : List (List UInt8)) : (ws.map fun t => (⟨t.toArray⟩ : ByteArray)).map (·.data.toList) = ws := by
  rw [List.map_map]
  conv => rhs; rw [← List.map_id ws]
  refine List.map_congr_left fun b _ => ?_
  simp
theorem row_any (g n : Nat) (ws : List (List UInt8)) (hn : ws.length = n) (h0 : 0 < n) (hN : n ≤ 1000) (hl : (rowS ws).length ≤ 100000000) (w : World) (hb : Blk w g 9 (ws.map strV)) :
    Calls Tryd.prog 14 #[.slice (some ⟨g, 0, none⟩) n n] w fun e w' => e = .returned (strV (rowS ws)) ∧ Below w.heap.size w w' := by
  have hj := Tryd.strings_Join g 0 n (ws.map fun t => (⟨t.toArray⟩ : ByteArray)) ⟨#[32]⟩ w (fun j x hx => by
    rw [Nat.zero_add, hb.cell]
    rw [List.getElem?_map] at hx ⊢
    obtain ⟨t, ht, rfl⟩ := Option.map_eq_some_iff.1 hx
    rw [ht]; rfl) hb.lt (by simp; omega) (by simp; omega) (by rw [map_list]; exact Nat.le_trans hl (by omega))
  rw [map_list, List.length_map, hn] at hj
  replace hj : Calls Tryd.prog 17 #[.slice (some ⟨g, 0, none⟩) n n, .string ⟨#[32]⟩] w fun e w' => e = .returned (strV (rowS ws)) ∧ Below w.heap.size w w' := hj
  obtain ⟨R, hR⟩ : ∃ R, strV (rowS ws) = R := ⟨_, rfl⟩
  rw [hR] at hj ⊢
  replace hj := Lib.hid hj
  clear hb hR
  go_enter Tryd.func14, Tryd.ntmps14
  go_wp2_with (go_at_call 17; refine hj.out.mono ?_; rintro e w2 ⟨rfl, hb2⟩)
  all_goals go_ret
  all_goals exact ⟨rfl, hb2⟩
theorem src_new' (w : World) (t : TypeId) (l : List Value) : SrcAt (w.alloc (.cells l.toArray t)) (.slice (some ⟨w.heap.size, 0, none⟩) 1 1) 1 l := ⟨_, _, rfl, (fun e => by cases e), fun ad e j u hj => by cases e; exact cells_new w _ rfl t l j u hj⟩
theorem one_str (R : List UInt8) : ∀ u ∈ [strV R], u.oneCell' = true := by
  intro u hu; simp only [List.mem_cons, List.not_mem_nil, or_false] at hu; subst hu; rfl
/-- rows in a row of memory that a cell holds -/
structure BkAt (w : World) (gl base : Nat) (ls : List (List UInt8)) (v : Value) : Prop where
  blk : Blk w gl 24 [v]
  lt : gl < base
  row : w.ownsRow base 9 1 v ls.length (ls.map strV)
/-- what a row more leaves as it was -/
structure Left (gl base : Nat) (w w' : World) : Prop where
  chg : Chg gl base w w'
  keep : ∀ k c t fr, t ≠ 9 → k ≠ gl → w.heap[k]? = some (.cells c t fr) → w'.heap[k]? = some (.cells c t fr)
theorem own_str {w : World} {base n : Nat} {v : Value} {xs : List Value} (h : w.ownsRow base 9 1 v n xs) {k : Nat} (hk : v.ownBlock = some k) : ∃ c fr, w.heap[k]? = some (.cells c 9 fr) := by
  rcases h.2 with ⟨rfl, _⟩ | ⟨gq, cap, cur, rfl, _, hh, _⟩
  · simp [Value.ownBlock] at hk
  · have : gq = k := by simpa [Value.ownBlock] using hk
    subst this
    exact ⟨_, _, hh⟩
set_option maxHeartbeats 4000000 in
set_option maxRecDepth 100000 in
theorem put_any (gw n gl base : Nat) (ws ls : List (List UInt8)) (hn : ws.length = n) (h0 : 0 < n) (hN : n ≤ 1000) (hl : (rowS ws).length ≤ 100000000) (hls : ls.length ≤ 1000000) (w : World) (hb : Blk w gw 9 (ws.map strV)) (v : Value) (hv : BkAt w gl base ls v) (hbase : base ≤ w.heap.size) :
    Calls Tryd.prog 13 #[.slice (some ⟨gw, 0, none⟩) n n, .pointer (some ⟨gl, 0, none⟩)] w fun e w' => e = .returned (.tuple #[]) ∧ (∃ v', BkAt w' gl base (ls ++ [rowS ws]) v') ∧ Left gl base w w' := by
  obtain ⟨i0, hi, hz0, hz1, hz2⟩ := info_parts infoStr
  have hrow := Lib.hid (row_any gw n ws hn h0 hN hl w.drew hb)
  obtain ⟨hblk, hlt, hown⟩ := hv
  obtain ⟨la, lc, rfl⟩ := own_slice hown
  have k0 : w.cell? ⟨gl, 0, none⟩ = some (.slice la ls.length lc) := hblk.cell 0
  have hlw : gl < w.heap.size := hblk.lt
  obtain ⟨R, hR⟩ : ∃ R, rowS ws = R := ⟨_, rfl⟩
  rw [hR] at hrow ⊢
  -- what stands behind the append and the store
  have hmain := Lib.hid (fun (w1 w2 : World) (v2 : Value) (hb1 : Below w.heap.size w w1) (hg : (w1.alloc (.cells #[strV R] 9)).grownBy w2 (Value.slice la ls.length lc).ownBlock) (ho : w2.ownsRow base 9 1 v2 (ls.length + 1) (ls.map strV ++ [strV R])) =>
    show Blk w2 gl 24 [.slice la ls.length lc] ∧ BkAt (w2.setCell ⟨gl, 0, none⟩ v2) gl base (ls ++ [R]) v2 ∧ Left gl base w (w2.setCell ⟨gl, 0, none⟩ v2) from by
      have hneq : some gl ≠ (Value.slice la ls.length lc).ownBlock := fun e => by have := (hown.lt _ e.symm).1; omega
      have hs1 := hb1.size
      have hB2 : Blk w2 gl 24 [.slice la ls.length lc] := ((hblk.below hb1).alloc _).of_eq (hg.block gl (by simp; omega) (fun e => hneq e))
      refine ⟨hB2, ⟨hB2.set 0 v2, hlt, ?_⟩, ?_, fun k c t fr ht hk hh => ?_⟩
      · have := ownsRow_setCell_below (a := ⟨gl, 0, none⟩) ho hlt v2
        simpa using this
      · exact (only_grown ((Only.of_below hb1).alloc _) hg (fun k hk => .inr (hown.lt k hk).1)).setCell (p := ⟨gl, 0, none⟩) (.inl rfl) _
      · have hkl : k < w.heap.size := by
          rcases Nat.lt_or_ge k w.heap.size with h | h
          · exact h
          · rw [Array.getElem?_eq_none h] at hh; cases hh
        have hne2 : some k ≠ (Value.slice la ls.length lc).ownBlock := fun e => by
          obtain ⟨c2, fr2, h2⟩ := own_str hown e.symm
          rw [h2] at hh
          injection hh with hh
          injection hh with _ h3 _
          exact ht h3.symm
        have e1 : (w2.setCell ⟨gl, 0, none⟩ v2).heap[k]? = w2.heap[k]? := ((Only.refl (fun j => j = gl) w2).setCell (p := ⟨gl, 0, none⟩) rfl v2).block k (by have := hg.size; simp at this; omega) hk
        rw [e1, hg.block k (by simp; omega) (fun e => hne2 e), Below.heap_alloc w1 _ k (by omega), hb1.block k hkl]
        exact hh)
  have hown0 := Lib.hid (fun w1 (hb1 : Below w.heap.size w w1) => own_bw hown hb1)
  have hcell := Lib.hid (fun w1 (hb1 : Below w.heap.size w w1) => (hb1.cell (p := ⟨gl, 0, none⟩) hlw).trans k0)
  clear hb hblk hown hR
  go_enter Tryd.func13, Tryd.ntmps13
  go_wp2_with fail
  go_region_law (first
    | (go_simp; go_at_call 14; refine hrow.out.mono ?_; rintro e w5 ⟨rfl, hb5⟩; have hB5 : Below w.heap.size w w5 := bl_trans (bl_drew (Below.refl _ _)) hb5; have c5 := hcell.out _ hB5; have l5 := Nat.lt_of_lt_of_le hlw hB5.size; have hsr := Lib.hid (src_new' w5 9 [strV R]); have ho5 := Lib.hid ((hown0.out _ hB5).alloc (.cells #[strV R] 9)); have hbs : base ≤ (w5.alloc (.cells #[strV R] 9)).heap.size := by (have := hB5.size; simp; omega))
    | (rw [if_pos (by rfl)]; refine wp_append_src _ (.tmp 3) (.tmp 6) 24 (by rfl) base 9 i0 _ 1 16 Tryd.underlying24 hi hz0 hz1 hz2 (by rfl) (Nat.zero_lt_one) _ _ _ (by rfl) ho5.out _ 1 [strV R] (by rfl) hsr.out rfl (one_str R) (by unfold maxLen; omega) (by omega) hbs ?_; intro v6 w6 ho6 hg6; obtain ⟨m1, m2, m3⟩ := hmain.out w5 w6 v6 hB5 hg6 ho6; have j0 : w6.cell? ⟨gl, 0, none⟩ = some (.slice la ls.length lc) := m1.cell 0; have j1 : w6.frozen? ⟨gl, 0, none⟩ = false := m1.free 0; have j2 := m1.lt; obtain ⟨a6, c6, rfl⟩ := own_slice ho6; replace m1 := Lib.hid m1; replace m2 := Lib.hid m2; replace m3 := Lib.hid m3))
  all_goals go_wp2_with fail
  all_goals go_end0
  all_goals exact ⟨rfl, ⟨_, m2.out⟩, m3.out⟩
end Go.Proofs.YtaginadnaajleaaDoor
/-
  book.Text: what lies in memory as rows are put; of chapter 32.
  Conditions: as each theorem states them.
-/
namespace Go.Proofs.YtaginadnaajleaaDoor
open Go.RowKit
set_option linter.unusedVariables false
set_option linter.unusedSimpArgs false
open BM (Cs)
/-- the state: a case's box, and the rows that were put -/
structure TS (w : World) (C : List Value) (ls : List (List UInt8)) (wr : World) : Prop where
  bel : Below w.heap.size w wr
  cs : Blk wr w.heap.size 29 C
  bk : ∃ v, BkAt wr (w.heap.size + 1) (w.heap.size + 2) ls v
  sz : w.heap.size + 2 ≤ wr.heap.size
theorem TS.below {w wr w2 : World} {C : List Value} {ls : List (List UInt8)} (h : TS w C ls wr) (hb : Below wr.heap.size wr w2) : TS w C ls w2 := by
  obtain ⟨v, h1, h2, h3⟩ := h.bk
  exact ⟨bl_trans h.bel hb, h.cs.below hb, ⟨v, h1.below hb, h2, own_bw h3 hb⟩, Nat.le_trans h.sz hb.size⟩
theorem TS.start (w : World) (C : List Value) : TS w C [] ((w.alloc (.cells C.toArray 29)).alloc (.cells #[.slice none 0 0] 24)) := by
  refine ⟨bl_alloc (bl_alloc (Below.refl _ _) _) _, (Blk.new w _ C).alloc _, ⟨.slice none 0 0, ?_, by omega, World.ownsRow_nil _ _ _ _⟩, by simp⟩
  have := Blk.new (w.alloc (.cells C.toArray 29)) 24 [.slice none 0 0]
  rwa [World.size_alloc] at this
/-- blocks of other types stay -/
def Stay (w : World) (wr w2 : World) : Prop := ∀ k c t, t ≠ 9 → k ≠ w.heap.size + 1 → Blk wr k t c → Blk w2 k t c
theorem put_TS {w : World} {C : List Value} {ls : List (List UInt8)} {wr : World} (h : TS w C ls wr) (gw n : Nat) (ws : List (List UInt8)) (hn : ws.length = n) (h0 : 0 < n) (hN : n ≤ 1000) (hl : (rowS ws).length ≤ 100000000) (hls : ls.length ≤ 1000000) (hb : Blk wr gw 9 (ws.map strV)) :
    Calls Tryd.prog 13 #[.slice (some ⟨gw, 0, none⟩) n n, .pointer (some ⟨w.heap.size + 1, 0, none⟩)] wr fun e w2 => e = .returned (.tuple #[]) ∧ TS w C (ls ++ [rowS ws]) w2 ∧ Stay w wr w2 := by
  obtain ⟨v, hv⟩ := h.bk
  refine (put_any gw n (w.heap.size + 1) (w.heap.size + 2) ws ls hn h0 hN hl hls wr hb v hv h.sz).mono fun e w2 he => ?_
  obtain ⟨rfl, hbk, hlf⟩ := he
  have hst : Stay w wr w2 := fun k c t ht hk hb => hlf.keep k _ t _ ht hk hb
  refine ⟨rfl, ⟨h.bel.trans (hlf.chg.below (N := w.heap.size) h.bel.size (fun k hk => by rcases hk with rfl | hk <;> omega)), hst _ _ _ (by decide) (by omega) h.cs, hbk, Nat.le_trans h.sz hlf.chg.size⟩, hst⟩
theorem put2 {w : World} {C : List Value} {ls : List (List UInt8)} {wr : World} (h : TS w C ls wr) (a b : List UInt8) (hl : a.length + b.length ≤ 1000000) (hls : ls.length ≤ 1000000) (g : Nat) (hg : g = wr.heap.size) :
    Calls Tryd.prog 13 #[.slice (some ⟨g, 0, none⟩) 2 2, .pointer (some ⟨w.heap.size + 1, 0, none⟩)] (wr.alloc (.cells #[strV a, strV b] 9)) fun e w2 => e = .returned (.tuple #[]) ∧ TS w C (ls ++ [a ++ 32 :: b]) w2 ∧ Stay w wr w2 := by
  subst hg
  have hT := h.below (bl_alloc (Below.refl _ _) (.cells #[strV a, strV b] 9))
  have := put_TS hT wr.heap.size 2 [a, b] rfl (by omega) (by omega) (by rw [rowS_two]; simp only [List.length_append, List.length_cons]; omega) hls (Blk.new wr 9 [strV a, strV b])
  rw [rowS_two] at this
  exact this.mono fun e w2 he => ⟨he.1, he.2.1, fun k c t ht hk hb => he.2.2 k c t ht hk (hb.alloc _)⟩
theorem put3 {w : World} {C : List Value} {ls : List (List UInt8)} {wr : World} (h : TS w C ls wr) (a b d : List UInt8) (hl : a.length + b.length + d.length ≤ 1000000) (hls : ls.length ≤ 1000000) (g : Nat) (hg : g = wr.heap.size) :
    Calls Tryd.prog 13 #[.slice (some ⟨g, 0, none⟩) 3 3, .pointer (some ⟨w.heap.size + 1, 0, none⟩)] (wr.alloc (.cells #[strV a, strV b, strV d] 9)) fun e w2 => e = .returned (.tuple #[]) ∧ TS w C (ls ++ [a ++ 32 :: (b ++ 32 :: d)]) w2 ∧ Stay w wr w2 := by
  subst hg
  have hT := h.below (bl_alloc (Below.refl _ _) (.cells #[strV a, strV b, strV d] 9))
  have := put_TS hT wr.heap.size 3 [a, b, d] rfl (by omega) (by omega) (by rw [rowS_three]; simp only [List.length_append, List.length_cons]; omega) hls (Blk.new wr 9 [strV a, strV b, strV d])
  rw [rowS_three] at this
  exact this.mono fun e w2 he => ⟨he.1, he.2.1, fun k c t ht hk hb => he.2.2 k c t ht hk (hb.alloc _)⟩
/-- the rows of the script -/
def sedL (c : Cs) : List (List UInt8) := if 0 < c.sed.length then [BM.sedW ++ 32 :: SH.quoteS c.sed] else []
/-- the options by their words -/
def ops4 (c : Cs) : List (Bool × List UInt8) := [(c.quiet, BM.quietW), (c.separate, BM.separateW), (c.place, BM.placeW), (c.extended, BM.extendedW)]
def optL (l : List (Bool × List UInt8)) : List (List UInt8) := l.flatMap fun p => if p.1 then [BM.optionW ++ 32 :: p.2] else []
def inpL (l : List (List UInt8)) : List (List UInt8) := l.map fun n => BM.inputW ++ 32 :: n
def filL (l : List (List UInt8 × List UInt8)) : List (List UInt8) := l.map fun p => BM.fileW ++ 32 :: (p.1 ++ 32 :: SH.quoteS p.2)
def numL (c : Cs) : List (List UInt8) := [BM.capacityW ++ 32 :: BM.numT c.cap, BM.periodW ++ 32 :: BM.numT c.period, BM.fuelW ++ 32 :: BM.numT c.fuel]
def doL (l : List (List UInt8)) : List (List UInt8) := l.map fun s => BM.doW ++ 32 :: s
theorem textL_parts (c : Cs) : BM.textL c = sedL c ++ optL (ops4 c) ++ inpL c.inputs ++ filL c.files ++ numL c ++ doL c.lines := by
  unfold BM.textL sedL optL ops4 inpL filL numL doL
  simp [List.flatMap_cons]
theorem take_snoc {α : Type} {l : List α} {k : Nat} (h : k < l.length) : l.take (k + 1) = l.take k ++ [l[k]] := List.take_succ_eq_append_getElem h
/-- how much a case may have, that is told -/
structure Told (c : Cs) : Prop where
  sed : c.sed.length ≤ 10000
  inputs : c.inputs.length ≤ 1000
  files : c.files.length ≤ 1000
  lines : c.lines.length ≤ 1000
  inp : ∀ s ∈ c.inputs, s.length ≤ 10000
  fil : ∀ p ∈ c.files, p.1.length ≤ 10000 ∧ p.2.length ≤ 10000
  lin : ∀ s ∈ c.lines, s.length ≤ 10000
  cap : -9223372036854775808 ≤ c.cap ∧ c.cap ≤ 9223372036854775807
  period : -9223372036854775808 ≤ c.period ∧ c.period ≤ 9223372036854775807
  fuel : -9223372036854775808 ≤ c.fuel ∧ c.fuel ≤ 9223372036854775807
  all : (BM.textS c).length ≤ 90000
theorem optL_len : ∀ l : List (Bool × List UInt8), (optL l).length ≤ l.length
  | [] => Nat.le_refl _
  | p :: l => by
    have := optL_len l
    unfold optL at this ⊢
    rw [List.flatMap_cons, List.length_append]
    split <;> simp only [List.length_cons, List.length_nil] <;> omega
theorem sedL_len (c : Cs) : (sedL c).length ≤ 1 := by unfold sedL; split <;> simp
end Go.Proofs.YtaginadnaajleaaDoor
