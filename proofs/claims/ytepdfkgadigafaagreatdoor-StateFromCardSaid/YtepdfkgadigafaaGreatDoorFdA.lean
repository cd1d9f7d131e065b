/-
  Small things for the fields of a state: truths as digits, a number's text and a quote put behind bytes; of chapter 20.
  Conditions: as each theorem states them.
-/
import Derived.Test.YtepdfkgadigafaaGreatDoorFldM
import Derived.Test.YtepdfkgadigafaaGreatDoorDlC
import Derived.Test.YtepdfkgadigafaaGreatDoorDlD
import Derived.Test.YtepdfkgadigafaaGreatDoorCpC
import Derived.Test.YtepdfkgadigafaaGreatDoorText
import Derived.Test.YtepdfkgadigafaaGreatDoorSmA
import Derived.Test.YtepdfkgadigafaaGreatDoorEscA
import Derived.Lib.AppendStr
import Derived.StillTailTactics
namespace Go.Proofs.YtepdfkgadigafaaGreatDoor
open Go.RowKit Go.Sort
set_option linter.unusedVariables false
set_option linter.unusedSimpArgs false
section
variable {P : Program} {ops : Array Oper} {w : World}
/-- a string's bytes appended, at an operation -/
theorem wp_append_str {o : Oper} {a : Act} {K : Act → World → Prop} {Q : Exit → Act → World → Prop} (sl x : Operand) (t u : TypeId)
    (ho : o.op = .call { callee := .builtin .append, args := #[sl, x], argTypes := #[t, u] })
    (base : Nat) (e : TypeId) (i : TypeInfo) (ht : P.underlying t = some (.slice e)) (hu : P.underlying u = some .string) (hi : P.info? e = some i) (hz : i.zero = some (.int .u8 0))
    (hsize : i.size = 1) (hby : i.bytes = 1)
    (v : Value) (n : Nat) (xs : List Value) (hs : a.eval sl = v) (hown : w.ownsRow base e 1 v n xs) (s : List UInt8) (hx : a.eval x = strV s)
    (h63 : n + s.length ≤ maxLen) (hbytes : n + s.length ≤ 140737488355328) (hbase : base ≤ w.heap.size)
    (h : ∀ v' w', w'.ownsRow base e 1 v' (n + s.length) (xs ++ s.map bv) → w.grownBy w' v.ownBlock → K (a.put o.dst v') w') : o.wp P a w K Q := by
  have hsz : (⟨s.toArray⟩ : ByteArray).size = s.length := ba_size s
  have hsc : Lib.strCells ⟨s.toArray⟩ = s.map bv := by simp [Lib.strCells, bv]
  obtain ⟨v', w', hr, h2, h3, _⟩ := Lib.run_append_own_string (P := P) w base t u o.type e i ht hu hi hz hsize hby v n xs hown ⟨s.toArray⟩ (by rw [hsz]; exact h63) (by rw [hsz]; exact hbytes) hbase
  rw [hsz, hsc] at h2
  unfold Oper.wp execOp
  simp only [ho, resolve, invoke, builtin, Sem.run_bind, Sem.run_pure, Result.andThen_ok, List.map_toArray, List.map_cons, List.map_nil, hs, hx, hr]
  exact h v' w' h2 h3
end
theorem bit_any (b : Bool) (w : World) : Calls Tryz.prog 25 #[.bool b] w fun e w' => e = .returned (.int .i64 (FM.bitN b)) ∧ w' = w := by
  cases b
  · show Calls _ _ _ _ fun e w' => e = .returned (.int .i64 0) ∧ w' = w
    go_enter Tryz.func25, Tryz.ntmps25
    go_wp2_with fail
    all_goals go_ret
    all_goals exact ⟨rfl, rfl⟩
  · show Calls _ _ _ _ fun e w' => e = .returned (.int .i64 1) ∧ w' = w
    go_enter Tryz.func25, Tryz.ntmps25
    go_wp2_with fail
    all_goals go_ret
    all_goals exact ⟨rfl, rfl⟩
theorem bits_snoc {l : List Bool} {k : Nat} (h : k < l.length) : (FM.bitsT (l.take (k + 1))).map bv = (FM.bitsT (l.take k)).map bv ++ [.int .u8 ((FM.bitB l[k]).toNat : Int)] := by
  unfold FM.bitsT
  rw [List.take_succ_eq_append_getElem h, List.map_append, List.map_append]
  rfl
set_option maxHeartbeats 2000000 in
set_option maxRecDepth 100000 in
theorem bits_any (a : Option Addr) (n c : Nat) (l : List Bool) {lo hi_ : Nat} (w : World) (hl : l.length ≤ 1000000) (h : BlI lo hi_ w ⟨a, n, c⟩ l) (hw : hi_ ≤ w.heap.size) :
    Calls Tryz.prog 28 #[.slice a n c] w fun e w' => ∃ v, e = .returned v ∧ w'.ownsRow w.heap.size 5 1 v (FM.bitsT l).length ((FM.bitsT l).map bv) ∧ Below w.heap.size w w' := by
  obtain ⟨i0, hi, hz0, hz1, hz2⟩ := info_parts info5_
  have hbl : (FM.bitsT l).length = l.length := by simp [FM.bitsT]
  rw [hbl]
  obtain rfl : n = l.length := h.1
  have hrow : 0 < l.length → ∃ b o, a = some ⟨b, o, none⟩ ∧ b < w.heap.size ∧ ∀ i (hi : i < l.length), w.cell? ⟨b, o + i, none⟩ = some (.bool l[i]) := fun h0 => by
    obtain ⟨p, o, e, h1, h2, h3⟩ := h.2.2.2 (by simpa using h0)
    exact ⟨p, o, e, by omega, fun i hi => by have := (h3 i (by simpa using hi)).1; simpa using this⟩
  replace hrow := Lib.hid hrow
  clear h
  go_enter Tryz.func28, Tryz.ntmps28
  go_wp2_with fail
  go_loopw [3, 8] (fun v i wr => ∃ k : Nat, k ≤ l.length ∧ i = .int .i64 (k : Int) ∧ wr.ownsRow w.heap.size 5 1 v k ((FM.bitsT (l.take k)).map bv) ∧ Below w.heap.size w wr) (fun _ i _ => l.length - (intOf i).toNat)
  case atStart => exact ⟨0, by omega, rfl, World.ownsRow_nil _ _ _ _, Below.refl _ _⟩
  case round =>
    obtain ⟨k, hk, rfl, hown, hnx⟩ := hrel
    have hsize := hnx.size
    by_cases hlt : k < l.length
    · obtain ⟨b, o, rfl, hb, hr⟩ := hrow.out (by omega)
      have c1 : wr.cell? ⟨b, o + k, none⟩ = some (.bool l[k]) := by rw [hnx.cell hb]; exact hr k hlt
      have hsn := Lib.hid (bits_snoc hlt)
      clear hr
      have hbit := Lib.hid (bit_any l[k] wr)
      generalize hz : l[k] = z at *
      replace hz := Lib.hid hz
      cases z
      all_goals go_wp2_with (first
        | (go_at_call 25; refine hbit.out.mono ?_; rintro e w2 ⟨rfl, rfl⟩)
        | (at_builtin; refine wpList_append_own _ rfl (.tmp 12) (.tmp 17) 22 rfl w.heap.size 5 i0 (.int .u8 0) 1 1 Tryz.underlying22 hi hz0 hz1 hz2 rfl (by decide) _ _ _ rfl (hown.alloc _) ⟨_, 0, none⟩ 1 1 [.int .u8 _] rfl rfl (cell_one_new _ _ _) (by intro u hu; simp at hu; subst hu; rfl) (by unfold maxLen; omega) (by omega) (by simp; omega) ?_; intro v1 w1 hown1 hgrow1 hnil1))
      all_goals go_roundw
      all_goals (first | exact ⟨k + 1, by omega, by go_num, by rw [hsn.out]; exact hown1, (hnx.alloc (by omega) _).grown hgrow1 (by simp; omega) (fun j hj => (hown.lt j hj).1)⟩ | (simp [intOf]; omega))
    · obtain rfl : k = l.length := by omega
      rw [List.take_length] at hown
      go_wp2_with fail
      all_goals go_ret
      all_goals exact ⟨_, rfl, hown, hnx⟩
end Go.Proofs.YtepdfkgadigafaaGreatDoor
/-
  Fields of a state: what lies in memory while they are made; of chapter 20.
  Conditions: as each theorem states them.
-/
namespace Go.Proofs.YtepdfkgadigafaaGreatDoor
open Go.RowKit Go.Sort
set_option linter.unusedVariables false
set_option linter.unusedSimpArgs false
theorem joinS_nums : ∀ xs : List Int, joinS ⟨#[32]⟩ xs = ⟨(FM.numsT xs).toArray⟩ := by
  have h1 : ∀ (l : List Int) (n : Int), Lib.itoa n ++ Lib.joinTail [32] (l.map fun n => (txt n).data.toList) = FM.numsT (n :: l) := by
    intro l
    induction l with
    | nil => intro n; simp [Lib.joinTail, FM.numsT]
    | cons m l ih =>
      intro n
      have h2 := ih m
      rw [show FM.numsT (n :: m :: l) = Lib.itoa n ++ 32 :: FM.numsT (m :: l) from rfl, ← h2]
      simp [Lib.joinTail, txt]
  intro xs
  unfold joinS
  congr 2
  cases xs with
  | nil => rfl
  | cons n l => rw [List.map_cons, Lib.join_cons]; exact h1 l n
/-- a text that lies below B -/
def LowT (B : Nat) (w : World) (v : Option Value) (x : List UInt8) : Prop := ∃ a c, v = some (.slice a x.length c) ∧ ByAt (fun b => b < B) false w a x
theorem LowT.keep {B : Nat} {w w' : World} {v : Option Value} {x : List UInt8} (h : LowT B w v x) (hs : w.heap.size ≤ w'.heap.size) (hk : ∀ b, b < B → b < w.heap.size → w'.heap[b]? = w.heap[b]?) : LowT B w' v x := by
  obtain ⟨a, c, e, h⟩ := h
  exact ⟨a, c, e, h.keep hs hk⟩
/-- a row of texts, of which the first k are new -/
def MidG (B k : Nat) (w : World) (g : Nat) (xs : List (List UInt8)) : Prop :=
  B ≤ g ∧ g < w.heap.size ∧ (∀ i, i < xs.length → w.frozen? ⟨g, i, none⟩ = false) ∧ ∀ i (h : i < xs.length), if i < k then TxCell (fun b => B ≤ b ∧ b ≠ g) true w (w.cell? ⟨g, i, none⟩) xs[i] else LowT B w (w.cell? ⟨g, i, none⟩) xs[i]
theorem MidG.at {B k : Nat} {w : World} {g : Nat} {xs : List (List UInt8)} (h : MidG B k w g xs) (hk : k < xs.length) : LowT B w (w.cell? ⟨g, k, none⟩) xs[k] := by
  have := h.2.2.2 k hk
  rwa [if_neg (by omega)] at this
theorem MidG.put {B k : Nat} {w w5 : World} {g : Nat} {xs : List (List UInt8)} (h : MidG B k w g xs) (hB : B ≤ w.heap.size) (hb : Below w.heap.size w w5) (hk : k < xs.length) {a : Option Addr} {c : Nat}
    (h1 : xs[k].length ≤ c) (h2 : c ≤ maxLen) (hx : ByAt (fun b => w.heap.size ≤ b) true w5 a xs[k]) : MidG B (k + 1) (w5.setCell ⟨g, k, none⟩ (.slice a xs[k].length c)) g xs := by
  obtain ⟨hg, hgl, hf, hc⟩ := h
  have hsz : (w5.setCell ⟨g, k, none⟩ (.slice a xs[k].length c)).heap.size = w5.heap.size := by simp [World.setCell]
  have hoth : ∀ b, b ≠ g → (w5.setCell ⟨g, k, none⟩ (.slice a xs[k].length c)).heap[b]? = w5.heap[b]? := fun b hb' => Below.heap_setCell _ _ _ _ hb'
  have hc0 : ∃ v, w5.cell? ⟨g, k, none⟩ = some v := by
    have := hc k hk
    rw [if_neg (by omega)] at this
    obtain ⟨xa, xc, e, _⟩ := this
    exact ⟨_, (hb.cell (p := ⟨g, k, none⟩) hgl).trans e⟩
  obtain ⟨v0, hc0⟩ := hc0
  refine ⟨hg, by rw [hsz]; exact Nat.lt_of_lt_of_le hgl hb.size, fun i hi => ?_, fun i hi => ?_⟩
  · rw [World.frozen?_setCell]
    exact (hb.frozen (p := ⟨g, i, none⟩) hgl).trans (hf i hi)
  · by_cases hik : i = k
    · subst hik
      rw [if_pos (by omega)]
      refine ⟨a, c, World.cell?_setCell_same _ _ _ hc0, h1, h2, (hx.mono (fun b hb => ⟨by omega, by omega⟩)).keep (by rw [hsz]; exact Nat.le_refl _) (fun b hb _ => hoth b hb.2)⟩
    · have h0 := hc i hi
      have he : (w5.setCell ⟨g, k, none⟩ (.slice a xs[k].length c)).cell? ⟨g, i, none⟩ = w.cell? ⟨g, i, none⟩ := by
        rw [World.cell?_setCell_other _ _ _ _ (by intro e; injection e with _ e; exact hik e.symm)]
        exact hb.cell (p := ⟨g, i, none⟩) hgl
      rw [he]
      by_cases hlt : i < k
      · rw [if_pos hlt] at h0
        rw [if_pos (by omega)]
        exact (h0.keep hb.size (fun b _ l => hb.block b l)).keep (by rw [hsz]; exact Nat.le_refl _) (fun b hb _ => hoth b hb.2)
      · rw [if_neg hlt] at h0
        rw [if_neg (by omega)]
        exact (h0.keep hb.size (fun b _ l => hb.block b l)).keep (by rw [hsz]; exact Nat.le_refl _) (fun b hb _ => hoth b (by omega))
theorem MidG.out {B k : Nat} {w : World} {g : Nat} {xs : List (List UInt8)} (h : MidG B k w g xs) (hk : xs.length ≤ k) : OutAt (fun b => B ≤ b) true w (some ⟨g, 0, none⟩) xs := fun _ =>
  ⟨g, rfl, h.1, h.2.1, h.2.2.1, fun i hi => by have := h.2.2.2 i hi; rwa [if_pos (by omega)] at this⟩
/-- texts that have just been put into a row -/
theorem MidG.new {w : World} {ls : List (List UInt8 × Option Addr × Nat)} {e : TypeId} {xs : List (List UInt8)} (hx : ls.map (·.1) = xs) (h : ∀ p ∈ ls, ByAt (fun _ => True) false w p.2.1 p.1) :
    MidG w.heap.size 0 (w.alloc (.cells (ls.map fun p => Value.slice p.2.1 p.1.length p.2.2).toArray e)) w.heap.size xs := by
  subst hx
  have hB := Blk.new w e (ls.map fun p => Value.slice p.2.1 p.1.length p.2.2)
  refine ⟨Nat.le_refl _, hB.lt, fun i _ => hB.free i, fun i hi => ?_⟩
  rw [if_neg (by omega), hB.cell]
  have hi' : i < ls.length := by simpa using hi
  refine ⟨ls[i].2.1, ls[i].2.2, by simp [hi'], ?_⟩
  have h1 := h ls[i] (List.getElem_mem hi')
  simp only [List.getElem_map]
  intro h0
  obtain ⟨b, o, e1, _, hl, hf, hr⟩ := h1 h0
  refine ⟨b, o, e1, hl, Nat.lt_of_lt_of_le hl (by simp), fun q => (Bool.false_ne_true q).elim, fun j hj => ?_⟩
  exact ((bl_alloc (Below.refl w.heap.size w) _).cell (p := ⟨b, o + j, none⟩) hl).trans (hr j hj)
/-- the i-th of pairs that lie in memory -/
theorem pr_nth {α : Type} {f : α → Value} {lo hi : Nat} {W : World} {s : Sl3} {l : List (α × List UInt8)} (h : PrI f lo hi W s l) (hW : hi ≤ W.heap.size) {i : Nat} (hi' : i < l.length) :
    ∃ (b o : Nat) (x : Sl3), s.a = some ⟨b, o, none⟩ ∧ b < W.heap.size ∧ W.cell? ⟨b, o + i * 2, none⟩ = some (f l[i].1) ∧ W.cell? ⟨b, o + i * 2 + 1, none⟩ = some x.v ∧ TxI lo hi W x l[i].2 := by
  obtain ⟨_, _, _, ss, h4, h5, h6⟩ := h
  have hz : ((l.map fun p => f p.1).zip ss).length = l.length := by simp [h4]
  obtain ⟨p, o, e, k1, k2, k3⟩ := h5 (by rw [pairs_len, hz]; omega)
  obtain ⟨g1, g2⟩ := pairs_get _ i (by rw [hz]; exact hi')
  have hp := pairs_len ((l.map fun p => f p.1).zip ss)
  have q1 := (k3 (i * 2) (by omega)).1
  have q2 := (k3 (i * 2 + 1) (by omega)).1
  rw [← List.getElem?_eq_getElem, g1] at q1
  rw [← List.getElem?_eq_getElem, g2] at q2
  refine ⟨p, o, ss[i], e, by omega, ?_, ?_, h6 i hi' (by omega)⟩
  · rw [q1]; simp
  · rw [show o + i * 2 + 1 = o + (i * 2 + 1) by omega, q2]; simp
/-- where the fields stand ahead of their copying -/
def FldCut (w : World) (xs : List (List UInt8)) (v : Value) (wx : World) : Prop := ∃ B g, v = .slice (some ⟨g, 0, none⟩) 10 10 ∧ MidG B 0 wx g xs ∧ B ≤ wx.heap.size ∧ w.heap.size ≤ B ∧ Below w.heap.size w wx
theorem fldcut_new {w X : World} (hb : Below w.heap.size w X) {a0 : Option Addr} {c0 : Nat} {x0 : List UInt8} (h0 : ByAt (fun _ => True) false X a0 x0) {a1 : Option Addr} {c1 : Nat} {x1 : List UInt8} (h1 : ByAt (fun _ => True) false X a1 x1) {a2 : Option Addr} {c2 : Nat} {x2 : List UInt8} (h2 : ByAt (fun _ => True) false X a2 x2) {a3 : Option Addr} {c3 : Nat} {x3 : List UInt8} (h3 : ByAt (fun _ => True) false X a3 x3) {a4 : Option Addr} {c4 : Nat} {x4 : List UInt8} (h4 : ByAt (fun _ => True) false X a4 x4) {a5 : Option Addr} {c5 : Nat} {x5 : List UInt8} (h5 : ByAt (fun _ => True) false X a5 x5) {a6 : Option Addr} {c6 : Nat} {x6 : List UInt8} (h6 : ByAt (fun _ => True) false X a6 x6) {a7 : Option Addr} {c7 : Nat} {x7 : List UInt8} (h7 : ByAt (fun _ => True) false X a7 x7) {a8 : Option Addr} {c8 : Nat} {x8 : List UInt8} (h8 : ByAt (fun _ => True) false X a8 x8) {a9 : Option Addr} {c9 : Nat} {x9 : List UInt8} (h9 : ByAt (fun _ => True) false X a9 x9) :
    FldCut w [x0, x1, x2, x3, x4, x5, x6, x7, x8, x9] (.slice (some ⟨X.heap.size, 0, none⟩) 10 10) (X.alloc (.cells #[.slice a0 x0.length c0, .slice a1 x1.length c1, .slice a2 x2.length c2, .slice a3 x3.length c3, .slice a4 x4.length c4, .slice a5 x5.length c5, .slice a6 x6.length c6, .slice a7 x7.length c7, .slice a8 x8.length c8, .slice a9 x9.length c9] 22)) :=
  ⟨X.heap.size, X.heap.size, rfl, MidG.new (ls := [(x0, a0, c0), (x1, a1, c1), (x2, a2, c2), (x3, a3, c3), (x4, a4, c4), (x5, a5, c5), (x6, a6, c6), (x7, a7, c7), (x8, a8, c8), (x9, a9, c9)]) rfl (by
    intro p hp
    simp only [List.mem_cons, List.mem_nil_iff, or_false] at hp
    rcases hp with rfl | rfl | rfl | rfl | rfl | rfl | rfl | rfl | rfl | rfl
    · exact h0
    · exact h1
    · exact h2
    · exact h3
    · exact h4
    · exact h5
    · exact h6
    · exact h7
    · exact h8
    · exact h9), by simp, hb.size, bl_alloc hb _⟩
theorem TxI.by {lo hi : Nat} {W : World} {a : Option Addr} {n c : Nat} {t : List UInt8} (h : TxI lo hi W ⟨a, n, c⟩ t) (hW : hi ≤ W.heap.size) : ByAt (fun _ => True) false W a t := fun h0 => by
  obtain ⟨p, o, e, hp, hr⟩ := h.at hW h0
  exact ⟨p, o, e, trivial, hp, (fun q => (Bool.false_ne_true q).elim), hr⟩
theorem waits_snoc {l : List (Int × List UInt8)} {k : Nat} (h : k < l.length) : FM.waitsT (l.take (k + 1)) = FM.waitsT (l.take k) ++ Lib.itoa l[k].1 ++ SH.quoteS l[k].2 := by
  unfold FM.waitsT
  rw [List.take_succ_eq_append_getElem h, List.flatMap_append]
  simp [FM.waitT]
theorem files_snoc {l : List (List UInt8 × List UInt8)} {k : Nat} (h : k < l.length) : FM.filesT (l.take (k + 1)) = FM.filesT (l.take k) ++ SH.quoteS l[k].1 ++ SH.quoteS l[k].2 := by
  unfold FM.filesT
  rw [List.take_succ_eq_append_getElem h, List.flatMap_append]
  simp [FM.fileT]
theorem quoteS_len (l : List UInt8) : (SH.quoteS l).length ≤ 4 * l.length + 2 := by
  have := SH.flat_len l
  unfold SH.quoteS
  simp only [List.length_cons, List.length_append, List.length_nil]; omega
theorem itoa_len {n : Int} (h : FM.I64 n) : (Lib.itoa n).length ≤ 21 := Lib.itoa_length_le n h.1 h.2
theorem waits_le : ∀ (l : List (Int × List UInt8)), (∀ x ∈ l, FM.I64 x.1) → (FM.waitsT l).length ≤ 23 * l.length + 4 * (l.map fun x => x.2.length).sum
  | [], _ => by simp [FM.waitsT]
  | x :: l, h => by
    have h1 := waits_le l (fun y hy => h y (by simp [hy]))
    have h2 := itoa_len (h x (by simp))
    have h3 := quoteS_len x.2
    have e : FM.waitsT (x :: l) = Lib.itoa x.1 ++ SH.quoteS x.2 ++ FM.waitsT l := by simp [FM.waitsT, FM.waitT]
    rw [e]
    simp only [List.length_append, List.length_cons, List.map_cons, List.sum_cons]
    omega
theorem files_le : ∀ (l : List (List UInt8 × List UInt8)), (FM.filesT l).length ≤ 4 * l.length + 4 * (l.map fun x => x.2.length + x.1.length).sum
  | [] => by simp [FM.filesT]
  | x :: l => by
    have h1 := files_le l
    have h2 := quoteS_len x.1
    have h3 := quoteS_len x.2
    have e : FM.filesT (x :: l) = SH.quoteS x.1 ++ SH.quoteS x.2 ++ FM.filesT l := by simp [FM.filesT, FM.fileT]
    rw [e]
    simp only [List.length_append, List.length_cons, List.map_cons, List.sum_cons]
    omega
theorem nums_le : ∀ (l : List Int), (∀ n ∈ l, FM.I64 n) → (FM.numsT l).length ≤ 22 * l.length
  | [], _ => by simp [FM.numsT]
  | [n], h => by have := itoa_len (h n (by simp)); simp only [FM.numsT, List.length_cons, List.length_nil]; omega
  | n :: m :: l, h => by
    have h1 := nums_le (m :: l) (fun y hy => h y (by simp [hy]))
    have h2 := itoa_len (h n (by simp))
    rw [show FM.numsT (n :: m :: l) = Lib.itoa n ++ 32 :: FM.numsT (m :: l) from rfl]
    simp only [List.length_append, List.length_cons] at h1 ⊢
    omega
theorem own_ne {w : World} {base e n g t : Nat} {v : Value} {xs c : List Value} (ho : w.ownsRow base e 1 v n xs) (hb : Blk w g t c) (ht : e ≠ t) : v.ownBlock ≠ some g := fun h => by
  rcases ho.2 with ⟨rfl, _⟩ | ⟨g', cap, cur, rfl, _, hh, _⟩
  · simp [Value.ownBlock] at h
  · simp only [Value.ownBlock, Option.some.injEq] at h
    subst h
    unfold Blk at hb
    rw [hh] at hb
    injection hb with hb
    injection hb with _ hb
    exact ht hb
theorem blk_grown {w w' : World} {row : Option Nat} {g t : Nat} {c : List Value} (hb : Blk w g t c) (hg : w.grownBy w' row) (hne : row ≠ some g) : Blk w' g t c := hb.of_eq (hg.block g hb.lt (fun e => hne e.symm))
theorem waits_le2 : ∀ (l : List (Int × List UInt8)), (∀ x ∈ l, FM.I64 x.1) → (∀ x ∈ l, x.2.length ≤ 2000) → (FM.waitsT l).length ≤ 8030 * l.length
  | [], _, _ => by simp [FM.waitsT]
  | x :: l, h, k => by
    have h1 := waits_le2 l (fun y hy => h y (by simp [hy])) (fun y hy => k y (by simp [hy]))
    have h2 := itoa_len (h x (by simp))
    have h3 := quoteS_len x.2
    have h4 := k x (by simp)
    have e : FM.waitsT (x :: l) = Lib.itoa x.1 ++ SH.quoteS x.2 ++ FM.waitsT l := by simp [FM.waitsT, FM.waitT]
    rw [e]
    simp only [List.length_append, List.length_cons]
    omega
theorem files_le2 : ∀ (l : List (List UInt8 × List UInt8)), (∀ x ∈ l, x.2.length ≤ 2000 ∧ x.1.length ≤ 2000) → (FM.filesT l).length ≤ 16010 * l.length
  | [], _ => by simp [FM.filesT]
  | x :: l, k => by
    have h1 := files_le2 l (fun y hy => k y (by simp [hy]))
    have h2 := quoteS_len x.1
    have h3 := quoteS_len x.2
    have h4 := k x (by simp)
    have e : FM.filesT (x :: l) = SH.quoteS x.1 ++ SH.quoteS x.2 ++ FM.filesT l := by simp [FM.filesT, FM.fileT]
    rw [e]
    simp only [List.length_append, List.length_cons]
    omega
/-- a state whose fields may be told -/
structure FitV (V : StV) : Prop where
  pat : V.pat.length ≤ 1000000
  hold : V.hold.length ≤ 1000000
  rest : V.rest.length ≤ 1000000
  out : V.out.length ≤ 1000000
  place : V.place.length ≤ 1000000
  active : V.active.length ≤ 1000000
  lacks : V.lacks.length ≤ 1000000
  waits : V.waits.length ≤ 1000000
  files : V.files.length ≤ 1000000
  wait : ∀ x ∈ V.waits, x.2.length ≤ 1000000
  file : ∀ x ∈ V.files, x.2.length ≤ 1000000 ∧ x.1.length ≤ 1000000
  waitsT : (FM.waitsT V.waits).length ≤ 1000000
  filesT : (FM.filesT V.files).length ≤ 1000000
theorem SmallV.fit {V : StV} (h : SmallV V) (hw : ∀ x ∈ V.waits, FM.I64 x.1) : FitV V := by
  have h1 := waits_le2 V.waits hw h.wait
  have h2 := files_le2 V.files h.file
  have h3 := h.waits
  have h4 := h.files
  have a := h.pat; have b := h.hold; have c := h.rest; have d := h.out; have e := h.place; have f := h.active; have g := h.lacks
  exact ⟨by omega, by omega, by omega, by omega, by omega, by omega, by omega, by omega, by omega, fun x hx => by have := h.wait x hx; omega, fun x hx => by have := h.file x hx; omega, by omega, by omega⟩
theorem waits_take (l : List (Int × List UInt8)) (k : Nat) : (FM.waitsT (l.take k)).length ≤ (FM.waitsT l).length := by
  conv => rhs; rw [← List.take_append_drop k l]
  unfold FM.waitsT
  rw [List.flatMap_append, List.length_append]; omega
theorem files_take (l : List (List UInt8 × List UInt8)) (k : Nat) : (FM.filesT (l.take k)).length ≤ (FM.filesT l).length := by
  conv => rhs; rw [← List.take_append_drop k l]
  unfold FM.filesT
  rw [List.flatMap_append, List.length_append]; omega
end Go.Proofs.YtepdfkgadigafaaGreatDoor
