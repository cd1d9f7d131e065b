/-
  The contract of Text, of chapter 29: a range over the map of rules; then the line is read again.
  Conditions: the table of powers of ten lies as laid ('Pow').
-/
import Derived.Test.YtjfpepinmbbnbaaDoorOrdT
import Derived.Test.YtjfpepinmbbnbaaDoorOrd10
import Derived.Test.YtjfpepinmbbnbaaDoorBack1
import Derived.Maps.RangeRun
import Derived.Maps.RangeWalk
import Derived.ChangeMaps4
namespace Go.Proofs.YtjfpepinmbbnbaaDoor
open Go.RowKit Go.ChangeMaps
set_option linter.unusedVariables false
set_option linter.unusedSimpArgs false
/-! ### the map of rules, gone through -/
theorem mem_mkEs : ∀ (l : List (List UInt8 × Rule)) (i : Nat) (e : MapEntry), e ∈ mkEs i l → ∃ j p, l[j]? = some p ∧ e = { key := strV p.1, val := entV p.2, born := i + j } := by
  intro l
  induction l with
  | nil => intro i e h; cases h
  | cons a l ih =>
    intro i e h
    obtain ⟨k, r⟩ := a
    simp only [mkEs, List.mem_cons] at h
    rcases h with rfl | h
    · exact ⟨0, (k, r), rfl, rfl⟩
    · obtain ⟨j, p, h1, h2⟩ := ih _ _ h
      exact ⟨j + 1, p, by simpa using h1, by rw [h2]; congr 1; omega⟩
theorem mem_es {e : MapEntry} (h : e ∈ (esN 12).toList) : ∃ j p, OM.rulesT[j]? = some p ∧ e = { key := strV p.1, val := entV p.2, born := j } := by
  obtain ⟨j, p, h1, h2⟩ := mem_mkEs OM.rulesT 0 e (by rwa [esN_all] at h)
  exact ⟨j, p, h1, by rw [h2]; congr 1; omega⟩
theorem es_born : ∀ x ∈ (esN 12).toList, x.born < 12 := by decide
theorem es_nodup : ((esN 12).toList.map (·.born)).Nodup := by decide
/-- which rule is of a kind -/
def kindAt (k : Int) : Option Nat := OM.rulesT.findIdx? (fun p => p.2.1 == k)
theorem kindAt_self : ∀ j (p : List UInt8 × Rule), OM.rulesT[j]? = some p → kindAt p.2.1 = some j ∧ OM.rulesT.find? (fun q => q.2.1 == p.2.1) = some p ∧ p.1.length ≤ 10 := by
  intro j p h
  have hj : j < 12 := by
    have := (List.getElem?_eq_some_iff.1 h).1
    exact this
  match j, hj, h with
  | 0, _, h => injection h with h; subst h; decide
  | 1, _, h => injection h with h; subst h; decide
  | 2, _, h => injection h with h; subst h; decide
  | 3, _, h => injection h with h; subst h; decide
  | 4, _, h => injection h with h; subst h; decide
  | 5, _, h => injection h with h; subst h; decide
  | 6, _, h => injection h with h; subst h; decide
  | 7, _, h => injection h with h; subst h; decide
  | 8, _, h => injection h with h; subst h; decide
  | 9, _, h => injection h with h; subst h; decide
  | 10, _, h => injection h with h; subst h; decide
  | 11, _, h => injection h with h; subst h; decide
/-- the text so far -/
def soFar (o : OM.Ord) (seen : Array Nat) : List UInt8 := if (kindAt o.kind).any (fun i => seen.contains i) = true then OM.ruleTxt o else []
theorem soFar_nil (o : OM.Ord) : soFar o #[] = [] := by unfold soFar; cases kindAt o.kind <;> simp
theorem soFar_hit {o : OM.Ord} {seen : Array Nat} {j : Nat} {p : List UInt8 × Rule} (h : OM.rulesT[j]? = some p) (hk : p.2.1 = o.kind) : soFar o (seen.push j) = if p.2.2.1 = true then p.1 ++ (32 :: Lib.itoa o.n) else p.1 := by
  obtain ⟨h1, h2, _⟩ := kindAt_self j p h
  rw [hk] at h1 h2
  unfold soFar OM.ruleTxt
  rw [h1, h2]
  simp
theorem soFar_miss {o : OM.Ord} {seen : Array Nat} {j : Nat} {p : List UInt8 × Rule} (h : OM.rulesT[j]? = some p) (hk : p.2.1 ≠ o.kind) : soFar o (seen.push j) = soFar o seen := by
  unfold soFar
  cases hc : kindAt o.kind with
  | none => rfl
  | some i =>
    have hij : i ≠ j := by
      rintro rfl
      unfold kindAt at hc
      obtain ⟨hi, hv, _⟩ := List.findIdx?_eq_some_iff_getElem.1 hc
      rw [List.getElem?_eq_getElem hi] at h
      injection h with h
      rw [h] at hv
      exact hk (by simpa using hv)
    simp only [Option.any_some, contains_push]
    have : (i == j) = false := by simpa using hij
    rw [this, Bool.or_false]
theorem soFar_all {o : OM.Ord} {seen : Array Nat} (h : (leftOf (esN 12) seen).size = 0) : soFar o seen = OM.ruleTxt o := by
  unfold soFar
  cases hc : kindAt o.kind with
  | none =>
    unfold OM.ruleTxt
    have : OM.rulesT.find? (fun p => p.2.1 == o.kind) = none := by
      unfold kindAt at hc
      rw [List.findIdx?_eq_none_iff] at hc
      rw [List.find?_eq_none]
      intro x hx
      have := hc x hx
      simpa using this
    rw [this]; rfl
  | some i =>
    have hi : i < 12 := by
      unfold kindAt at hc
      obtain ⟨hi, _⟩ := List.findIdx?_eq_some_iff_getElem.1 hc
      exact hi
    have hall := all_seen (esN 12) seen h
    have hb : ∀ i, i < 12 → ∃ x ∈ (esN 12).toList, x.born = i := by
      intro i hi
      match i, hi with
      | 0, _ => exact ⟨_, List.getElem_mem (n := 0) (by decide), rfl⟩
      | 1, _ => exact ⟨_, List.getElem_mem (n := 1) (by decide), rfl⟩
      | 2, _ => exact ⟨_, List.getElem_mem (n := 2) (by decide), rfl⟩
      | 3, _ => exact ⟨_, List.getElem_mem (n := 3) (by decide), rfl⟩
      | 4, _ => exact ⟨_, List.getElem_mem (n := 4) (by decide), rfl⟩
      | 5, _ => exact ⟨_, List.getElem_mem (n := 5) (by decide), rfl⟩
      | 6, _ => exact ⟨_, List.getElem_mem (n := 6) (by decide), rfl⟩
      | 7, _ => exact ⟨_, List.getElem_mem (n := 7) (by decide), rfl⟩
      | 8, _ => exact ⟨_, List.getElem_mem (n := 8) (by decide), rfl⟩
      | 9, _ => exact ⟨_, List.getElem_mem (n := 9) (by decide), rfl⟩
      | 10, _ => exact ⟨_, List.getElem_mem (n := 10) (by decide), rfl⟩
      | 11, _ => exact ⟨_, List.getElem_mem (n := 11) (by decide), rfl⟩
    obtain ⟨x, hx, rfl⟩ := hb i hi
    simp only [Option.any_some, hall x hx, if_true]
/-- the map and the way through it -/
def IterAt (w : World) (b r : Nat) (seen : Array Nat) : Prop := w.heap[b]? = some (.map (esN 12) 12) ∧ ∃ c0, w.heap[r]? = some (.mapIter (some b) 12 seen c0) ∧ 12 ≤ c0
theorem IterAt.keep {w w' : World} {b r : Nat} {seen : Array Nat} (h : IterAt w b r seen) (hb : Below w.heap.size w w') : IterAt w' b r seen := by
  obtain ⟨h1, c0, h2, h3⟩ := h
  exact ⟨(hb.block b (Array.getElem?_eq_some_iff.1 h1).1).trans h1, c0, (hb.block r (Array.getElem?_eq_some_iff.1 h2).1).trans h2, h3⟩
/-- a step of the way -/
theorem IterAt.next {w : World} {b r : Nat} {seen : Array Nat} (h : IterAt w b r seen) (ty : TypeId) :
    ((leftOf (esN 12) seen).size = 0 ∧ (Instr.next (.pointer (some ⟨r, 0, none⟩)) false ty).run Tryd.prog w = .ok (.tuple #[.bool false]) w) ∨
    ∃ j p w', OM.rulesT[j]? = some p ∧ (leftOf (esN 12) (seen.push j)).size < (leftOf (esN 12) seen).size ∧ (Instr.next (.pointer (some ⟨r, 0, none⟩)) false ty).run Tryd.prog w = .ok (.tuple #[.bool true, strV p.1, entV p.2]) w' ∧
      IterAt w' b r (seen.push j) ∧ (Instr.entry (.pointer (some ⟨r, 0, none⟩))).run Tryd.prog w' = .ok (.tuple #[strV p.1, entV p.2]) w' ∧ Only (fun k => k = r) w w' := by
  obtain ⟨h1, c0, h2, h3⟩ := h
  rcases run_next_at (P := Tryd.prog) w ty r b 12 c0 seen (esN 12) 12 h2 h1 es_born h3 with ⟨a, hr⟩ | ⟨e, he, w1, hw1, hr⟩
  · exact .inl ⟨a, hr⟩
  · obtain ⟨hem, hes⟩ := mem_left he
    have hsh := left_shrinks (esN 12) seen e he
    obtain ⟨j, p, hj, rfl⟩ := mem_es hem
    have h1' : w1.heap[b]? = some (.map (esN 12) 12) := by rcases hw1 with rfl | rfl <;> exact h1
    have h2' : w1.heap[r]? = some (.mapIter (some b) 12 seen c0) := by rcases hw1 with rfl | rfl <;> exact h2
    have hne : b ≠ r := by rintro rfl; rw [h1] at h2; cases h2
    obtain ⟨s1, s2⟩ := MapKept.heap_set (o' := .mapIter (some b) 12 (seen.push j) 12) h2'
    have hb' : (setBlock w1 r (.mapIter (some b) 12 (seen.push j) 12)).heap[b]? = some (.map (esN 12) 12) := (s2 b hne).trans h1'
    refine .inr ⟨j, p, _, hj, hsh, hr, ⟨hb', 12, s1, Nat.le_refl _⟩, run_entry_at _ r b 12 seen (esN 12) 12 _ s1 hb' hem es_nodup, ?_⟩
    rcases hw1 with rfl | rfl
    · exact ⟨rfl, rfl, rfl, by simp [setBlock], fun k _ hk => s2 k hk⟩
    · exact ⟨rfl, rfl, rfl, by simp [setBlock], fun k _ hk => s2 k hk⟩
/-- what Text answers -/
def TextIs (o : OM.Ord) (w : World) (e : Ending) (w' : World) : Prop := Below w.heap.size w w' ∧
  ((OM.parse (OM.textOf o) = (o, 0) ∧ e = .returned (.tuple #[strV (OM.textOf o), .bool true])) ∨ (OM.parse (OM.textOf o) ≠ (o, 0) ∧ e = .returned (.tuple #[strV [], .bool false])))
/-- the loop over the rules -/
def TxR (o : OM.Ord) (w : World) (gh : Nat) (s : Value) (wr : World) : Prop := ∃ seen, gh = (leftOf (esN 12) seen).size ∧ s = strV (soFar o seen) ∧ IterAt wr (w.heap.size + 1) (w.heap.size + 1 + 1) seen ∧
  Blk wr w.heap.size 41 [.int .i64 o.kind, .int .i64 o.n, .int .i64 o.m, strV o.s] ∧ Below w.heap.size w wr
def TxS (T : List UInt8) (k n m : Int) (s : List UInt8) (w : World) (v : Value) (wx : World) : Prop := v = strV T ∧ Blk wx w.heap.size 41 [.int .i64 k, .int .i64 n, .int .i64 m, strV s] ∧ Below w.heap.size w wx
def I64 (n : Int) : Prop := -9223372036854775808 ≤ n ∧ n ≤ 9223372036854775807
theorem itoa_len {n : Int} (h : I64 n) : (Lib.itoa n).length ≤ 21 := by
  have := txt_size n h
  simpa [txt, ByteArray.size] using this
theorem ruleTxt_len (o : OM.Ord) (h : I64 o.n) : (OM.ruleTxt o).length ≤ 100 := by
  have hl := itoa_len h
  unfold OM.ruleTxt
  cases hf : OM.rulesT.find? (fun p => p.2.1 == o.kind) with
  | none => simp
  | some p =>
    have hm := List.mem_of_find?_eq_some hf
    obtain ⟨j, hj⟩ := List.getElem?_of_mem hm
    have := (kindAt_self j p hj).2.2
    simp only
    split
    · simp only [List.length_append, List.length_cons]; omega
    · omega
theorem ba_add' (a b : List UInt8) : (⟨a.toArray⟩ : ByteArray) ++ ⟨b.toArray⟩ = ⟨(a ++ b).toArray⟩ := by apply ByteArray.ext; simp [ByteArray.data_append]
theorem textOf_len (o : OM.Ord) (hn : I64 o.n) (hm : I64 o.m) (hs : o.s.length ≤ 300) : (OM.textOf o).length ≤ 1000 := by
  have h1 := itoa_len hn
  have h2 := itoa_len hm
  have h3 := ruleTxt_len o hn
  unfold OM.textOf
  (repeat' split) <;> first | omega | (simp only [List.length_append, List.length_cons, OM.breakW, OM.cmdW, OM.lineW, OM.watchW, OM.listW, OM.showW, OM.fileW, List.length_nil]; omega)
theorem joinS_two (n m : Int) : joinS ⟨#[32]⟩ [n, m] = ⟨(Lib.itoa n ++ (32 :: Lib.itoa m)).toArray⟩ := by
  simp [joinS, Lib.join, List.intercalate, txt]
theorem joinS_two_size {n m : Int} (hn : I64 n) (hm : I64 m) : (joinS ⟨#[32]⟩ [n, m]).size ≤ 60 := by
  rw [joinS_two]
  have h1 := itoa_len hn
  have h2 := itoa_len hm
  show (Lib.itoa n ++ (32 :: Lib.itoa m)).toArray.size ≤ 60
  simp only [List.size_toArray, List.length_append, List.length_cons]; omega
theorem int_row (w : World) (n m : Int) : IntRow (w.alloc (.cells #[.int .i64 n, .int .i64 m] 3)) w.heap.size 0 [n, m] := fun i hi => by
  have h := Blk.new w 3 [.int .i64 n, .int .i64 m]
  match i, hi with
  | 0, _ => exact h.cell 0
  | 1, _ => exact h.cell 1
set_option maxHeartbeats 4000000 in
set_option maxRecDepth 100000 in
theorem otext_any (k n m : Int) (s : List UInt8) (hk : I64 k) (hn : I64 n) (hm : I64 m) (hs : s.length ≤ 300) (w : World) (hp : Pow w) :
    Calls Tryd.prog 24 #[.agg #[.int .i64 k, .int .i64 n, .int .i64 m, strV s]] w (TextIs ⟨k, n, m, s⟩ w) := by
  have hnt := fun (W : World) (hb : Below w.heap.size w W) => text_any n hn W (hp.below hb)
  have hln := itoa_len hn
  have hlm := itoa_len hm
  have hts := txt_size n hn
  have hls := hs
  replace hnt := Lib.hid hnt
  replace hn := Lib.hid hn
  replace hm := Lib.hid hm
  replace hk := Lib.hid hk
  go_enter Tryd.func24, Tryd.ntmps24
  go_upto_region 2 with fail
  obtain ⟨W0, hW0⟩ : ∃ W0, w.alloc (.cells #[.int .i64 k, .int .i64 n, .int .i64 m, .string ⟨s.toArray⟩] 41) = W0 := ⟨_, rfl⟩
  rw [hW0]
  have z0 : W0.heap.size = w.heap.size + 1 := by rw [← hW0]; simp
  have B0 : Blk W0 w.heap.size 41 [.int .i64 k, .int .i64 n, .int .i64 m, strV s] := hW0 ▸ Blk.new w 41 [.int .i64 k, .int .i64 n, .int .i64 m, strV s]
  have b0 : Below w.heap.size w W0 := hW0 ▸ bl_alloc (Below.refl _ _) _
  have hrr := run_range_map (P := Tryd.prog) (W0.alloc (.map (esN 12) 12)) 87 9 90 W0.heap.size (esN 12) 12 Tryd.underlying87 (heap_alloc_new _ _)
  have hit : IterAt ((W0.alloc (.map (esN 12) 12)).alloc (.mapIter (some W0.heap.size) 12 #[] 12)) W0.heap.size (W0.heap.size + 1) #[] := by
    refine ⟨(Below.heap_alloc _ _ _ (by simp)).trans (heap_alloc_new _ _), 12, ?_, Nat.le_refl _⟩
    have := heap_alloc_new (W0.alloc (.map (esN 12) 12)) (.mapIter (some W0.heap.size) 12 #[] 12)
    rwa [World.size_alloc] at this
  have B0' := (B0.alloc (.map (esN 12) 12)).alloc (.mapIter (some W0.heap.size) 12 #[] 12)
  have b0' := bl_alloc (bl_alloc b0 (.map (esN 12) 12)) (.mapIter (some W0.heap.size) 12 #[] 12)
  rw [World.size_alloc] at hrr
  rw [z0] at hrr hit B0' b0'
  clear hW0 B0 b0
  replace hit := Lib.hid hit
  replace B0' := Lib.hid B0'
  replace b0' := Lib.hid b0'
  have hru := fun (g : Nat) (hg : W0.heap.size = g) => (hg ▸ rules_any W0 : Calls Tryd.prog 55 #[] W0 fun e w' => e = .returned (.map (some g)) ∧ w' = W0.alloc (.map (esN 12) 12))
  replace hru := Lib.hid (hru _ z0)
  go_wp2_with (go_at_call 55; refine hru.out.mono ?_; rintro e w5 ⟨rfl, rfl⟩)
  go_loopg [4] 12 (fun gh s4 wr => TxR ⟨k, n, m, s⟩ w gh s4 wr)
  case atStart =>
    refine ⟨#[], by kernel_rfl, by rw [soFar_nil], ?_, ?_, ?_⟩
    · exact hit.out
    · exact B0'.out
    · exact b0'.out
  case round =>
    clear hit B0' b0' hru hrr z0
    obtain ⟨seen, rfl, rfl, hit, hB, hb⟩ := hrel
    have hlr : w.heap.size < wr.heap.size := hB.lt
    rcases hit.next 0 with ⟨h0, hrun⟩ | ⟨j, p, w', hj, hsh, hrun, hit', hent, hon⟩
    · have hend := soFar_all (o := ⟨k, n, m, s⟩) h0
      rw [hend]
      have hrl : (OM.ruleTxt ⟨k, n, m, s⟩).length ≤ 100 := ruleTxt_len _ hn.out
      replace hB := Lib.hid hB
      replace hb := Lib.hid hb
      have cB := cells4 hB.out
      clear hit
      obtain ⟨T, hT⟩ : ∃ T, OM.textOf ⟨k, n, m, s⟩ = T := ⟨_, rfl⟩
      have hTl : T.length ≤ 1000 := by rw [← hT]; exact textOf_len _ hn.out hm.out hs
      obtain ⟨R, hR⟩ : ∃ R, OM.ruleTxt ⟨k, n, m, s⟩ = R := ⟨_, rfl⟩
      rw [hR]
      clear hend h0
      have hj := fun (g : Nat) (hg : g = wr.heap.size) => (hg ▸ join_any ⟨#[32]⟩ (some ⟨wr.heap.size, 0, none⟩) 2 [n, m] (wr.alloc (.cells #[.int .i64 n, .int .i64 m] 3)) (hp.below (bl_alloc hb.out _)) (by intro x hx; simp at hx; rcases hx with rfl | rfl; exact hn.out; exact hm.out) (by simp) (by decide)
        (fun _ => ⟨_, _, rfl, by simp, int_row wr n m⟩) : Calls Tryd.prog 19 #[.string ⟨#[32]⟩, .slice (some ⟨g, 0, none⟩) 2 2] (wr.alloc (.cells #[.int .i64 n, .int .i64 m] 3)) fun e w' => e = .returned (.string (joinS ⟨#[32]⟩ [n, m])) ∧ Below (wr.alloc (.cells #[.int .i64 n, .int .i64 m] 3)).heap.size (wr.alloc (.cells #[.int .i64 n, .int .i64 m] 3)) w')
      have hjs : (joinS ⟨#[32]⟩ [n, m]).size ≤ 60 := joinS_two_size hn.out hm.out
      replace hj := Lib.hid hj
      replace hT := Lib.hid hT
      replace hR := Lib.hid hR
      go_upto_block 2 with fail
      go_cut [4] from 30 to 68 (fun s4 wx => TxS T k n m s w s4 wx)
      case first =>
        by_cases e7 : k = 7
        · subst e7
          by_cases em : m = 0
          · subst em
            have ht : T = [98, 114, 101, 97, 107, 32, 99, 109, 100, 32] ++ Lib.itoa n := by rw [← hT.out]; rfl
            replace ht := Lib.hid ht
            go_wp2_with (go_at_call 16; first
              | ((with_reducible refine (hnt.out wr hb.out).mono ?_); rintro e w7 ⟨rfl, hb7⟩; have hB7 := hB.out.below hb7; have c7 := cells4 hB7; have hbw7 := bl_trans hb.out hb7; replace hB7 := Lib.hid hB7; replace hbw7 := Lib.hid hbw7)
              | ((with_reducible refine (hnt.out w7 hbw7.out).mono ?_); rintro e w8 ⟨rfl, hb8⟩; have hB8 := hB7.out.below hb8; have hbw8 := bl_trans hbw7.out hb8; replace hB8 := Lib.hid hB8; replace hbw8 := Lib.hid hbw8))
            go_meet
            exact ⟨by rw [ht.out]; exact congrArg Value.string (ba_add' _ _), hB8.out, hbw8.out⟩
          · have emb : (m == 0) = false := by simpa using em
            have ht : T = [98, 114, 101, 97, 107, 32, 108, 105, 110, 101, 32] ++ Lib.itoa n := by rw [← hT.out]; simp [OM.textOf, em, OM.breakW, OM.lineW]
            replace ht := Lib.hid ht
            clear em
            go_wp2_with (go_at_call 16; ((with_reducible refine (hnt.out wr hb.out).mono ?_); rintro e w7 ⟨rfl, hb7⟩; have hB7 := hB.out.below hb7; have c7 := cells4 hB7; have hbw7 := bl_trans hb.out hb7; replace hB7 := Lib.hid hB7; replace hbw7 := Lib.hid hbw7))
            go_meet
            exact ⟨by rw [ht.out]; exact congrArg Value.string (ba_add' _ _), hB7.out, hbw7.out⟩
        · have d7 : (k == 7) = false := by simpa using e7
          by_cases e8 : k = 8
          · subst e8
            have ht : T = [119, 97, 116, 99, 104, 32] ++ s := by rw [← hT.out]; rfl
            replace ht := Lib.hid ht
            go_wp2_with fail
            go_meet
            exact ⟨by rw [ht.out]; exact congrArg Value.string (ba_add' _ _), hB.out, hb.out⟩
          · have d8 : (k == 8) = false := by simpa using e8
            by_cases e13 : k = 13
            · subst e13
              have ht : Value.string ((⟨#[108, 105, 115, 116, 32]⟩ : ByteArray) ++ joinS ⟨#[32]⟩ [n, m]) = strV T := by rw [← hT.out, joinS_two]; exact congrArg Value.string (ba_add' _ _)
              replace ht := Lib.hid ht
              go_wp2_with (go_at_call 19; refine (hj.out _ (by simp)).mono ?_; rintro e w7 ⟨rfl, hb7⟩; have hB7 := (hB.out.alloc _).below hb7; have hbw7 := bl_trans (bl_alloc hb.out _) hb7; replace hB7 := Lib.hid hB7; replace hbw7 := Lib.hid hbw7)
              go_meet
              exact ⟨ht.out, hB7.out, hbw7.out⟩
            · have d13 : (k == 13) = false := by simpa using e13
              by_cases e14 : k = 14
              · subst e14
                have ht : T = [115, 104, 111, 119, 32] ++ s := by rw [← hT.out]; rfl
                replace ht := Lib.hid ht
                go_wp2_with fail
                go_meet
                exact ⟨by rw [ht.out]; exact congrArg Value.string (ba_add' _ _), hB.out, hb.out⟩
              · have d14 : (k == 14) = false := by simpa using e14
                by_cases e16 : k = 16
                · subst e16
                  have ht : T = [102, 105, 108, 101, 32] ++ s := by rw [← hT.out]; rfl
                  replace ht := Lib.hid ht
                  go_wp2_with fail
                  go_meet
                  exact ⟨by rw [ht.out]; exact congrArg Value.string (ba_add' _ _), hB.out, hb.out⟩
                · have d16 : (k == 16) = false := by simpa using e16
                  have ht : T = R := by rw [← hT.out, ← hR.out]; simp [OM.textOf, e7, e8, e13, e14, e16]
                  replace ht := Lib.hid ht
                  clear e7 e8 e13 e14 e16
                  go_wp2_with fail
                  go_meet
                  exact ⟨by rw [ht.out], hB.out, hb.out⟩
      case rest =>
        obtain ⟨rfl, hB2, hb2⟩ := hcut
        clear hB hb cB hj hjs hR
        have cB := cells4 hB2
        have lB := hB2.lt
        replace hB2 := Lib.hid hB2
        replace hb2 := Lib.hid hb2
        have hpg := fun W => parse_go T (by omega) W
        obtain ⟨⟨⟨k', n', m', s'⟩, cc⟩, hP⟩ : ∃ P, OM.parse T = P := ⟨_, rfl⟩
        rw [hP] at hpg
        have hyes : ∀ X, (⟨k', n', m', s'⟩, cc) = ((⟨k, n, m, s⟩ : OM.Ord), (0 : Int)) → Below w.heap.size w X → TextIs ⟨k, n, m, s⟩ w (.returned (.tuple #[strV T, .bool true])) X := fun X he hX => ⟨hX, .inl ⟨by rw [hT.out, hP, he], by rw [hT.out]⟩⟩
        have hno : ∀ X, (⟨k', n', m', s'⟩, cc) ≠ ((⟨k, n, m, s⟩ : OM.Ord), (0 : Int)) → Below w.heap.size w X → TextIs ⟨k, n, m, s⟩ w (.returned (.tuple #[strV [], .bool false])) X := fun X he hX => ⟨hX, .inr ⟨by rw [hT.out, hP]; exact he, rfl⟩⟩
        replace hyes := Lib.hid hyes
        replace hno := Lib.hid hno
        replace hpg := Lib.hid hpg
        replace hP := Lib.hid hP
        by_cases hc : cc = 0
        · subst hc
          by_cases hx : k' = k ∧ n' = n ∧ m' = m ∧ s' = s
          · obtain ⟨a1, a2, a3, a4⟩ := hx
            have hy := Lib.hid (fun X => hyes.out X (by rw [a1, a2, a3, a4]))
            subst a1 a2 a3 a4
            clear hyes hno
            go_wp2_with (go_at_call 25; refine (hpg.out _).mono ?_; rintro e w7 ⟨rfl, hb7⟩; have hB7 := hB2.out.below hb7; have c7 := cells4 hB7; have l7 := hB7.lt; have hb8 := Lib.hid (bl_trans hb2.out hb7); clear hB7 hb7)
            go_ret2
            exact hy.out _ (bl_alloc hb8.out _)
          · have hn2 := Lib.hid (fun X => hno.out X (fun h => hx (by injection h with h _; injection h with h1 h2 h3 h4; exact ⟨h1, h2, h3, h4⟩)))
            have hcase : ((k' == k) = false) ∨ ((k' == k) = true ∧ (n' == n) = false) ∨ ((k' == k) = true ∧ (n' == n) = true ∧ (m' == m) = false) ∨ ((k' == k) = true ∧ (n' == n) = true ∧ (m' == m) = true ∧ (s' == s) = false) := by
              by_cases a1 : k' = k
              · by_cases a2 : n' = n
                · by_cases a3 : m' = m
                  · right; right; right
                    exact ⟨by simpa using a1, by simpa using a2, by simpa using a3, by rw [beq_eq_false_iff_ne]; exact fun a4 => hx ⟨a1, a2, a3, a4⟩⟩
                  · right; right; left; exact ⟨by simpa using a1, by simpa using a2, by simpa using a3⟩
                · right; left; exact ⟨by simpa using a1, by simpa using a2⟩
              · left; simpa using a1
            clear hx hyes hno
            rcases hcase with b1 | ⟨b1, b2⟩ | ⟨b1, b2, b3⟩ | ⟨b1, b2, b3, b4⟩
            all_goals
              go_wp2_with (go_at_call 25; refine (hpg.out _).mono ?_; rintro e w7 ⟨rfl, hb7⟩; have hB7 := hB2.out.below hb7; have c7 := cells4 hB7; have l7 := hB7.lt; have hb8 := Lib.hid (bl_trans hb2.out hb7); clear hB7 hb7)
              go_ret2
              exact hn2.out _ (bl_alloc hb8.out _)
        · have hcb : (cc != 0) = true := by simpa using hc
          have hn2 := Lib.hid (fun X => hno.out X (fun h => hc (by injection h)))
          clear hc hyes hno
          go_wp2_with (go_at_call 25; refine (hpg.out _).mono ?_; rintro e w7 ⟨rfl, hb7⟩; have hB7 := hB2.out.below hb7; have c7 := cells4 hB7; have l7 := hB7.lt; have hb8 := Lib.hid (bl_trans hb2.out hb7); clear hB7 hb7)
          go_ret2
          exact hn2.out _ (bl_alloc hb8.out _)
    · obtain ⟨nm, kk, a1, a2, a3⟩ := p
      obtain ⟨_, _, hnl⟩ := kindAt_self j _ hj
      simp only at hnl
      have hB' := hB.only hon (by omega)
      have hb' := hb.trans (hon.below (N := w.heap.size) (by omega) (fun k hk => by omega))
      simp only [entV] at hrun hent
      have c4 := cells4 hB'
      have l' := hB'.lt
      replace hB' := Lib.hid hB'
      replace hit' := Lib.hid hit'
      replace hb' := Lib.hid hb'
      replace hsh := Lib.hid hsh
      by_cases hkk : kk = k
      · subst hkk
        cases a1 with
        | true =>
          have hso := Lib.hid (soFar_hit (o := ⟨kk, n, m, s⟩) (seen := seen) hj rfl)
          clear hj hit hB hb hon
          go_wp2_with (go_at_call 16; refine (hnt.out _ (bl_alloc hb'.out _)).mono ?_; rintro e w7 ⟨rfl, hb7⟩)
          all_goals go_roundg (leftOf (esN 12) (seen.push j)).size
          case measure => exact hsh.out
          case rel => exact ⟨seen.push j, rfl, by rw [hso.out]; exact congrArg Value.string (by simp [txt, ba_add']), (hit'.out.keep (bl_alloc (Below.refl _ _) _)).keep hb7, (hB'.out.alloc _).below hb7, bl_trans (bl_alloc hb'.out _) hb7⟩
        | false =>
          have hso := Lib.hid (soFar_hit (o := ⟨kk, n, m, s⟩) (seen := seen) hj rfl)
          clear hj hit hB hb hon
          go_wp2_with fail
          all_goals go_roundg (leftOf (esN 12) (seen.push j)).size
          case measure => exact hsh.out
          case rel => exact ⟨seen.push j, rfl, by rw [hso.out]; rfl, hit'.out.keep (bl_alloc (Below.refl _ _) _), hB'.out.alloc _, bl_alloc hb'.out _⟩
      · have hso := Lib.hid (soFar_miss (o := ⟨k, n, m, s⟩) (seen := seen) hj hkk)
        have hkb : (kk == k) = false := by simpa using hkk
        clear hj hit hB hb hon hkk
        go_wp2_with fail
        all_goals go_roundg (leftOf (esN 12) (seen.push j)).size
        case measure => exact hsh.out
        case rel => exact ⟨seen.push j, rfl, by rw [hso.out], hit'.out.keep (bl_alloc (Below.refl _ _) _), hB'.out.alloc _, bl_alloc hb'.out _⟩
end Go.Proofs.YtjfpepinmbbnbaaDoor
