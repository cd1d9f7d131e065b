/-
  The rows of the files, of chapter 30.
  Conditions: the table of powers of ten lies as laid ('Pow').
-/
import Derived.Test.YtjfpepinmbbnbaaDoorWaits
import Derived.Test.YtjfpepinmbbnbaaDoorOrd2
import Derived.Deep.AppendLies
import Derived.Deep.RegionHeld3
namespace Go.Proofs.YtjfpepinmbbnbaaDoor
open Go.RowKit
set_option linter.unusedVariables false
set_option linter.unusedSimpArgs false
structure Fl where
  name : List UInt8
  a : Option Addr
  n : Nat
  c : Nat
/-- files, in a row of memory -/
def FilesAt (w : World) (a : Option Addr) (l : List Fl) : Prop := 0 < l.length → ∃ b o, a = some ⟨b, o, none⟩ ∧ b < w.heap.size ∧ ∀ i (h : i < l.length), w.cell? ⟨b, o + i * 2, none⟩ = some (strV l[i].name) ∧ w.cell? ⟨b, o + i * 2 + 1, none⟩ = some (.slice l[i].a l[i].n l[i].c) ∧ l[i].name.length ≤ 3000 ∧ l[i].n ≤ 1000000
def fileS (x : Fl) : ByteArray := rowS [⟨(quoteS x.name).toArray⟩, txt x.n]
theorem fileS_le (x : Fl) (h : x.name.length ≤ 3000) (h2 : x.n ≤ 1000000) : (fileS x).size ≤ 1000000 := by
  have hq := quoteS_len x.name
  have ht := txt_size (x.n : Int) (by omega)
  refine Nat.le_trans (rowS_le _ 13000 (fun y hy => ?_)) (by simp)
  simp only [List.mem_cons, List.not_mem_nil, or_false] at hy
  rcases hy with rfl | rfl
  · show (quoteS x.name).toArray.size ≤ _
    rw [List.size_toArray]; omega
  · omega
/-- the conversion in the region, by a name: the region's tactic then does not try it as one that only reads -/
def tblConv : Op := .convert 9 22 (.tmp 15)
attribute [local go_sem] tblConv
set_option maxHeartbeats 4000000 in
set_option maxRecDepth 100000 in
theorem table_any (s : StC) (l : List Fl) (hl : l.length ≤ 3000) (hn : s.files.n = l.length) (w : World) (hp : Pow w) (ha : FilesAt w s.files.a l) : Calls Tryd.prog 68 #[.agg s.cells.toArray] w (RowsIs (l.map fileS) w) := by
  obtain ⟨i0, hi, hz0, hz1, hz2⟩ := info_parts info9_
  have hz := (Blk.new w 66 s.cells).cell
  have c25 := hz 25
  have hb1 : Below w.heap.size w (w.alloc (.cells s.cells.toArray 66)) := bl_alloc (Below.refl _ _) _
  obtain ⟨W1, hW1⟩ : ∃ W1, w.alloc (.cells s.cells.toArray 66) = W1 := ⟨_, rfl⟩
  rw [hW1] at hb1 c25
  replace c25 : W1.cell? ⟨w.heap.size, 25, none⟩ = some (.slice s.files.a s.files.n s.files.c) := c25
  rw [hn] at c25
  clear hz
  unfold StC.cells at hW1 ⊢
  simp only [Sl3.v] at hW1 ⊢
  rw [hn] at hW1 ⊢
  generalize s.files.a = wa at *
  replace ha := Lib.hid ha
  go_enter Tryd.func68, Tryd.ntmps68
  go_wp2_with fail
  clear hW1 c25
  go_loopg [3, 9] l.length (fun gh v i wr => ∃ k : Nat, gh = l.length - k ∧ i = .int .i64 (k : Int) ∧ k ≤ l.length ∧ wr.ownsRow w.heap.size 9 1 v k (((l.take k).map fileS).map Value.string) ∧ Below w.heap.size w wr)
  case atStart => exact ⟨0, rfl, rfl, by omega, World.ownsRow_nil _ _ _ _, hb1⟩
  case round =>
    clear hb1
    obtain ⟨k, rfl, rfl, hk, hown, hb⟩ := hrel
    have hsz := hb.size
    by_cases hlt : k < l.length
    · obtain ⟨b, o, rfl, hbl, hc⟩ := ha.out (by omega)
      obtain ⟨d0, d1, d2, d3⟩ := hc k hlt
      have hstep : (l.take (k + 1)).map fileS = (l.take k).map fileS ++ [fileS l[k]] := by rw [List.take_succ_eq_append_getElem hlt, List.map_append]; rfl
      have hwl := fileS_le l[k] d2 d3
      generalize l[k] = x at *
      have e0 := (hb.cell (p := ⟨b, o + k * 2, none⟩) hbl).trans d0
      have e1 := (hb.cell (p := ⟨b, o + k * 2 + 1, none⟩) hbl).trans d1
      replace hstep := Lib.hid hstep
      have hbr : b < wr.heap.size := by omega
      clear hc d0 d1
      go_upto_region 5 with fail
      obtain ⟨W2, hW2⟩ : ∃ W2, wr.alloc (.cells #[strV x.name, .slice x.a x.n x.c] 78) = W2 := ⟨_, rfl⟩
      have g2 := hW2 ▸ Blk.new wr 78 [strV x.name, .slice x.a x.n x.c]
      have b2 : Below wr.heap.size wr W2 := hW2 ▸ bl_alloc (Below.refl _ _) _
      rw [hW2]
      have lw : wr.heap.size < W2.heap.size := g2.lt
      have hown2 := own_blw hown b2
      have hB2 := bl_trans hb b2
      obtain ⟨c2, w2, hc2, hb2, hr2, hl2⟩ := conv_bytes (P := Tryd.prog) W2.drew 9 22 5 x.name Tryd.underlying9 Tryd.underlying22 Tryd.underlying5
      have sz2 : W2.drew.heap.size = W2.heap.size := rfl
      have hG2 := Lib.hid g2
      rw [sz2] at hc2 hr2 hl2
      have hkk := Lib.hid (fun (Y : World) (hY : Below W2.heap.size W2 Y) => (⟨(g2.below hY).cell 0, (g2.below hY).cell 1⟩ : Y.cell? ⟨wr.heap.size, 0, none⟩ = some (strV x.name) ∧ Y.cell? ⟨wr.heap.size, 1, none⟩ = some (.slice x.a x.n x.c)))
      have hI := hkk.out W2.drew (bl_drew (Below.refl _ _))
      have hb2' : Below W2.heap.size W2 w2 := bl_trans (bl_drew (Below.refl _ _)) hb2
      have hqt := Lib.hid (quote_any (some ⟨W2.heap.size, 0, none⟩) c2 x.name w2 (by omega) (fun _ => ⟨_, _, rfl, hl2, hr2⟩))
      have htx := Lib.hid (fun (W : World) (hW : Below W2.heap.size W2 W) => text_any (x.n : Int) (by omega) W (hp.below (bl_trans hB2 hW)))
      have hrw := Lib.hid (fun (W : World) (g : Nat) (hg : g = W.heap.size) => row2_call W 9 g hg ⟨(quoteS x.name).toArray⟩ (txt x.n) (fileS x) rfl hwl)
      have hI2 := hkk.out w2 hb2'
      replace hb2' := Lib.hid hb2'
      replace hB2 := Lib.hid hB2
      clear hb2 hr2 hW2 e0 e1 g2 b2 sz2
      have m1 : k + 1 ≤ maxLen := by unfold maxLen; omega
      have m2 : (k + 1) * 16 ≤ 140737488355328 := by omega
      have hap := Lib.hid (fun (w9 : World) (hB9 : Below W2.heap.size W2 w9) (ob : Obj) (wA : World) (q : (w9.alloc ob).grownBy wA u3.ownBlock) => (by
        have he : wA.heap[wr.heap.size]? = W2.heap[wr.heap.size]? := (q.block wr.heap.size (by have := hB9.size; simp; omega) (fun e => by have := (hown.lt _ e.symm).2; omega)).trans ((Below.heap_alloc w9 ob wr.heap.size (by have := hB9.size; omega)).trans (hB9.block _ lw))
        exact ⟨(hG2.out.of_eq he).cell 0, (hG2.out.of_eq he).cell 1⟩ : wA.cell? ⟨wr.heap.size, 0, none⟩ = some (strV x.name) ∧ wA.cell? ⟨wr.heap.size, 1, none⟩ = some (.slice x.a x.n x.c)))
      replace hown2 := Lib.hid hown2
      rw [show Op.convert 9 22 (.tmp 15) = tblConv from rfl]
      go_region_held3 (fun w' => w'.cell? ⟨wr.heap.size, 0, none⟩ = some (strV x.name) ∧ w'.cell? ⟨wr.heap.size, 1, none⟩ = some (.slice x.a x.n x.c)) (first | with_reducible exact hI | with_reducible exact hI2 | exact hkk.out _ (bl_alloc hB9 _) | exact hkk.out _ (bl_alloc hB8 _))
        (first
        | (go_at_call 65; (with_reducible refine hqt.out.mono ?_); rintro e w7 ⟨rfl, hb7⟩; have hB7 := bl_trans hb2'.out hb7; have hI := hkk.out _ hB7)
        | (go_at_call 16; refine (htx.out _ hB7).mono ?_; rintro e w8 ⟨rfl, hb8⟩; have hB8 := bl_trans hB7 hb8; have hI := hkk.out _ hB8)
        | (go_at_call 61; refine (hrw.out _ _ (by simp)).mono ?_; rintro e w9 ⟨rfl, hb9⟩; have hB9 := bl_trans (bl_alloc hB8 _) hb9; have hI := hkk.out _ hB9; have hz9 := hB9.size; have hown9 := Lib.hid (own_blw hown2.out hB9))
        | (refine step_append_lies _ rfl (.tmp 13) (.tmp 24) 68 rfl w.heap.size 9 i0 _ 1 16 Tryd.underlying68 hi hz0 hz1 hz2 rfl Nat.zero_lt_one u3 k (((l.take k).map fileS).map Value.string) rfl (hown9.out.alloc _) ⟨w9.heap.size, 0, none⟩ 1 1 [.string (fileS x)] rfl rfl (cell_one_new _ _ _) (by intro u hu; simp at hu; subst hu; rfl) Nat.zero_lt_one m1 m2 (by simp; omega) _ rfl ?_; intro gA cA wA oA qA _ _; have hI := hap.out _ hB9 _ _ qA; replace oA := Lib.hid oA; replace qA := Lib.hid qA))
      all_goals go_wp2_with fail
      all_goals go_roundg (l.length - (k + 1))
      case measure => omega
      case rel => exact ⟨k + 1, rfl, by go_num, by omega, by rw [hstep.out, List.map_append]; exact oA.out, ((bl_trans hB2.out hB9).alloc (by omega) _).grown qA.out (by simp; omega) (fun j hj => (hown9.out.lt j hj).1)⟩
    · obtain rfl : k = l.length := by omega
      rw [List.take_length] at hown
      go_wp2_with fail
      go_ret
      exact ⟨_, rfl, by rw [List.length_map]; exact hown, hb⟩
end Go.Proofs.YtjfpepinmbbnbaaDoor
