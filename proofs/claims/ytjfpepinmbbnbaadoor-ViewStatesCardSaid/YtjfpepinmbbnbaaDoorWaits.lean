/-
  The rows of what waits, of chapter 30.
  Conditions: as each theorem states them.
-/
import Derived.Test.YtjfpepinmbbnbaaDoorSt
namespace Go.Proofs.YtjfpepinmbbnbaaDoor
open Go.RowKit
set_option linter.unusedVariables false
set_option linter.unusedSimpArgs false
structure Wt where
  kind : Int
  sl : Sl3
  bytes : List UInt8
/-- what waits, in a row of memory -/
def WaitsAt (w : World) (a : Option Addr) (l : List Wt) : Prop := 0 < l.length → ∃ b o, a = some ⟨b, o, none⟩ ∧ b < w.heap.size ∧ ∀ i (h : i < l.length), w.cell? ⟨b, o + i * 2, none⟩ = some (.int .i64 l[i].kind) ∧ w.cell? ⟨b, o + i * 2 + 1, none⟩ = some (.slice l[i].sl.a l[i].bytes.length l[i].sl.c) ∧ BytesAt w l[i].sl.a l[i].bytes ∧ l[i].bytes.length ≤ 3000
def kindW (k : Int) : ByteArray := if k = 1 then ⟨#[102, 105, 108, 101]⟩ else ⟨#[116, 101, 120, 116]⟩
def waitS (x : Wt) : ByteArray := rowS [kindW x.kind, ⟨(quoteS x.bytes).toArray⟩]
theorem quoteS_len (l : List UInt8) : (quoteS l).length ≤ 4 * l.length + 2 := by
  have := flat_len l
  unfold quoteS
  simp only [List.length_cons, List.length_append, List.length_nil]
  omega
theorem kindW_le (k : Int) : (kindW k).size ≤ 4 := by unfold kindW; split <;> decide
theorem waitS_le (x : Wt) (h : x.bytes.length ≤ 3000) : (waitS x).size ≤ 1000000 := by
  have hq := quoteS_len x.bytes
  have hk := kindW_le x.kind
  refine Nat.le_trans (rowS_le _ 13000 (fun y hy => ?_)) (by simp)
  simp only [List.mem_cons, List.not_mem_nil, or_false] at hy
  rcases hy with rfl | rfl
  · omega
  · show (quoteS x.bytes).toArray.size ≤ _
    rw [List.size_toArray]; omega
/-- rows of texts that a call has made -/
def RowsIs (ts : List ByteArray) (w : World) (e : Ending) (w' : World) : Prop := ∃ v, e = .returned v ∧ w'.ownsRow w.heap.size 9 1 v ts.length (ts.map Value.string) ∧ Below w.heap.size w w'
set_option maxHeartbeats 4000000 in
set_option maxRecDepth 100000 in
theorem waits_any (s : StC) (l : List Wt) (hl : l.length ≤ 3000) (hn : s.waits.n = l.length) (w : World) (ha : WaitsAt w s.waits.a l) : Calls Tryd.prog 67 #[.agg s.cells.toArray] w (RowsIs (l.map waitS) w) := by
  obtain ⟨i0, hi, hz0, hz1, hz2⟩ := info_parts info9_
  have hz := (Blk.new w 66 s.cells).cell
  have c24 := hz 24
  have hb1 : Below w.heap.size w (w.alloc (.cells s.cells.toArray 66)) := bl_alloc (Below.refl _ _) _
  obtain ⟨W1, hW1⟩ : ∃ W1, w.alloc (.cells s.cells.toArray 66) = W1 := ⟨_, rfl⟩
  rw [hW1] at hb1 c24
  replace c24 : W1.cell? ⟨w.heap.size, 24, none⟩ = some (.slice s.waits.a s.waits.n s.waits.c) := c24
  rw [hn] at c24
  clear hz
  unfold StC.cells at hW1 ⊢
  simp only [Sl3.v] at hW1 ⊢
  rw [hn] at hW1 ⊢
  generalize s.waits.a = wa at *
  replace ha := Lib.hid ha
  go_enter Tryd.func67, Tryd.ntmps67
  go_wp2_with fail
  clear hW1 c24
  have hu : ∀ (N : Nat), True := fun _ => trivial
  go_loopg [3, 10] l.length (fun gh v i wr => ∃ k : Nat, gh = l.length - k ∧ i = .int .i64 (k : Int) ∧ k ≤ l.length ∧ wr.ownsRow w.heap.size 9 1 v k (((l.take k).map waitS).map Value.string) ∧ Below w.heap.size w wr)
  case atStart => exact ⟨0, rfl, rfl, by omega, World.ownsRow_nil _ _ _ _, hb1⟩
  case round =>
    clear hb1
    obtain ⟨k, rfl, rfl, hk, hown, hb⟩ := hrel
    have hsz := hb.size
    by_cases hlt : k < l.length
    · obtain ⟨b, o, rfl, hbl, hc⟩ := ha.out (by omega)
      obtain ⟨d0, d1, d2, d3⟩ := hc k hlt
      have hstep : (l.take (k + 1)).map waitS = (l.take k).map waitS ++ [waitS l[k]] := by rw [List.take_succ_eq_append_getElem hlt, List.map_append]; rfl
      have hwl := waitS_le l[k] d3
      generalize l[k] = x at *
      have e0 := (hb.cell (p := ⟨b, o + k * 2, none⟩) hbl).trans d0
      have e1 := (hb.cell (p := ⟨b, o + k * 2 + 1, none⟩) hbl).trans d1
      have hq := Lib.hid (fun (W : World) (hW : Below w.heap.size w W) => quote_any x.sl.a x.sl.c x.bytes W (by omega) (d2.below hW))
      replace hstep := Lib.hid hstep
      have hbr : b < wr.heap.size := by omega
      clear hc d0 d1 d2
      by_cases hk1 : x.kind = 1
      · have hkb : (x.kind == 1) = true := by simpa using hk1
        have hrw := Lib.hid (fun (W : World) (g : Nat) (hg : g = W.heap.size) => row2_call W 9 g hg ⟨#[102, 105, 108, 101]⟩ ⟨(quoteS x.bytes).toArray⟩ (waitS x) (by unfold waitS kindW; rw [if_pos hk1]) hwl)
        clear hk1
        go_wp2_with (first
          | (go_at_call 65; refine (hq.out _ (bl_alloc hb _)).mono ?_; rintro e w7 ⟨rfl, hb7⟩; have hown7 := own_blw (hown.alloc _) hb7; have hB7 := bl_trans (bl_alloc hb _) hb7)
          | (go_at_call 61; refine (hrw.out _ _ (by simp)).mono ?_; rintro e w8 ⟨rfl, hb8⟩; have hown8 := own_blw (hown7.alloc _) hb8; have hB8 := bl_trans (bl_alloc hB7 _) hb8; have hz8 := hB8.size)
          | (at_builtin; refine wpList_append_own _ rfl (.tmp 17) (.tmp 24) 68 rfl w.heap.size 9 i0 (.string ⟨#[]⟩) 1 16 Tryd.underlying68 hi hz0 hz1 hz2 rfl (by decide) _ _ _ rfl (hown8.alloc _) ⟨w8.heap.size, 0, none⟩ 1 1 [.string (waitS x)] rfl rfl (cell_one_new _ _ _) (by intro u hu; simp at hu; subst hu; rfl) (by unfold maxLen; omega) (by omega) (by simp; omega) ?_; intro v1 w1 hown1 hgrow1 hnil1))
        all_goals go_roundg (l.length - (k + 1))
        case measure => omega
        case rel => exact ⟨k + 1, rfl, by go_num, by omega, by rw [hstep.out, List.map_append]; exact hown1, (hB8.alloc (by omega) _).grown hgrow1 (by simp; omega) (fun j hj => (hown8.lt j hj).1)⟩
      · have hkb : (x.kind == 1) = false := by simpa using hk1
        have hrw := Lib.hid (fun (W : World) (g : Nat) (hg : g = W.heap.size) => row2_call W 9 g hg ⟨#[116, 101, 120, 116]⟩ ⟨(quoteS x.bytes).toArray⟩ (waitS x) (by unfold waitS kindW; rw [if_neg hk1]) hwl)
        clear hk1
        go_wp2_with (first
          | (go_at_call 65; refine (hq.out _ (bl_alloc hb _)).mono ?_; rintro e w7 ⟨rfl, hb7⟩; have hown7 := own_blw (hown.alloc _) hb7; have hB7 := bl_trans (bl_alloc hb _) hb7)
          | (go_at_call 61; refine (hrw.out _ _ (by simp)).mono ?_; rintro e w8 ⟨rfl, hb8⟩; have hown8 := own_blw (hown7.alloc _) hb8; have hB8 := bl_trans (bl_alloc hB7 _) hb8; have hz8 := hB8.size)
          | (at_builtin; refine wpList_append_own _ rfl (.tmp 17) (.tmp 24) 68 rfl w.heap.size 9 i0 (.string ⟨#[]⟩) 1 16 Tryd.underlying68 hi hz0 hz1 hz2 rfl (by decide) _ _ _ rfl (hown8.alloc _) ⟨w8.heap.size, 0, none⟩ 1 1 [.string (waitS x)] rfl rfl (cell_one_new _ _ _) (by intro u hu; simp at hu; subst hu; rfl) (by unfold maxLen; omega) (by omega) (by simp; omega) ?_; intro v1 w1 hown1 hgrow1 hnil1))
        all_goals go_roundg (l.length - (k + 1))
        case measure => omega
        case rel => exact ⟨k + 1, rfl, by go_num, by omega, by rw [hstep.out, List.map_append]; exact hown1, (hB8.alloc (by omega) _).grown hgrow1 (by simp; omega) (fun j hj => (hown8.lt j hj).1)⟩
    · obtain rfl : k = l.length := by omega
      rw [List.take_length] at hown
      go_wp2_with fail
      go_ret
      exact ⟨_, rfl, by rw [List.length_map]; exact hown, hb⟩
end Go.Proofs.YtjfpepinmbbnbaaDoor
