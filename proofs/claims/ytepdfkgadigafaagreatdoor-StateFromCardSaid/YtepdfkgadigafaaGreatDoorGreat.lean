/-
  A state as it comes in, and whether it is great (palinoderef20.Great).
  Conditions: as each theorem states them.
-/
import Derived.Test.YtepdfkgadigafaaGreatDoorMem
import Derived.Test.YtepdfkgadigafaaGreatDoorProg
import Derived.Deep.LoopGhost
namespace Go.Proofs.YtepdfkgadigafaaGreatDoor
open Go.RowKit
set_option linter.unusedVariables false
set_option linter.unusedSimpArgs false
structure Wt where
  kind : Int
  sl : Sl3
  bytes : List UInt8
structure Fl where
  name : List UInt8
  a : Option Addr
  n : Nat
  c : Nat
structure Fb where
  fl : Fl
  bytes : List UInt8
/-- what a state has -/
structure StB where
  pat : List UInt8
  hold : List UInt8
  rest : List UInt8
  out : List UInt8
  place : List UInt8
  waits : List Wt
  files : List Fb
def WaitsRaw (w : World) (a : Option Addr) (l : List Wt) : Prop := 0 < l.length → ∃ b o, a = some ⟨b, o, none⟩ ∧ b < w.heap.size ∧ ∀ i (h : i < l.length), w.cell? ⟨b, o + i * 2, none⟩ = some (.int .i64 l[i].kind) ∧ w.cell? ⟨b, o + i * 2 + 1, none⟩ = some (.slice l[i].sl.a l[i].bytes.length l[i].sl.c) ∧ BytesAt w l[i].sl.a l[i].bytes ∧ l[i].bytes.length ≤ 140737488351232
def FilesRaw (w : World) (a : Option Addr) (l : List Fb) : Prop := 0 < l.length → ∃ b o, a = some ⟨b, o, none⟩ ∧ b < w.heap.size ∧ ∀ i (h : i < l.length), w.cell? ⟨b, o + i * 2, none⟩ = some (strV l[i].fl.name) ∧ w.cell? ⟨b, o + i * 2 + 1, none⟩ = some (.slice l[i].fl.a l[i].bytes.length l[i].fl.c) ∧ BytesAt w l[i].fl.a l[i].bytes ∧ l[i].fl.name.length ≤ 140737488351232 ∧ l[i].bytes.length ≤ 140737488351232
structure RawAt (w : World) (s : StC) (b : StB) : Prop where
  patN : s.pat.n = b.pat.length
  holdN : s.hold.n = b.hold.length
  restN : s.rest.n = b.rest.length
  outN : s.out.n = b.out.length
  placeN : s.place.n = b.place.length
  patL : b.pat.length ≤ 140737488351232
  holdL : b.hold.length ≤ 140737488351232
  restL : b.rest.length ≤ 140737488351232
  outL : b.out.length ≤ 140737488351232
  placeL : b.place.length ≤ 140737488351232
  activeL : s.active.n ≤ 140737488351232
  lacksL : s.lacks.n ≤ 140737488351232
  patC : b.pat.length ≤ s.pat.c
  holdC : b.hold.length ≤ s.hold.c
  restC : b.rest.length ≤ s.rest.c
  outC : b.out.length ≤ s.out.c
  patAt : BytesAt w s.pat.a b.pat
  holdAt : BytesAt w s.hold.a b.hold
  restAt : BytesAt w s.rest.a b.rest
  outAt : BytesAt w s.out.a b.out
  placeAt : BytesAt w s.place.a b.place
  waitsN : s.waits.n = b.waits.length
  waitsL : b.waits.length ≤ 140737488351232
  waitsAt : WaitsRaw w s.waits.a b.waits
  filesN : s.files.n = b.files.length
  filesL : b.files.length ≤ 140737488351232
  filesAt : FilesRaw w s.files.a b.files
  flN : ∀ f ∈ b.files, f.fl.n = f.bytes.length
  line : -9223372036854775808 ≤ s.line ∧ s.line ≤ 9223372036854775807
  last : -9223372036854775808 ≤ s.last ∧ s.last ≤ 9223372036854775807
  cur : -9223372036854775808 ≤ s.cur ∧ s.cur ≤ 9223372036854775807
  missing : -9223372036854775808 ≤ s.missing ∧ s.missing ≤ 9223372036854775807
  pc : -9223372036854775808 ≤ s.pc ∧ s.pc ≤ 9223372036854775807
  phase : -9223372036854775808 ≤ s.phase ∧ s.phase ≤ 9223372036854775807
  exit : -9223372036854775808 ≤ s.exit ∧ s.exit ≤ 9223372036854775807
  stop : -9223372036854775808 ≤ s.stop ∧ s.stop ≤ 9223372036854775807
  err : -9223372036854775808 ≤ s.err ∧ s.err ≤ 9223372036854775807
def wSum (l : List Wt) : Nat := (l.map fun x => x.bytes.length).sum
def fSum (l : List Fb) : Nat := (l.map fun x => x.bytes.length + x.fl.name.length).sum
def nSum (s : StC) (b : StB) : Nat := b.pat.length + b.hold.length + b.rest.length + b.out.length + b.place.length + s.active.n + s.lacks.n
/-- is there more than is looked at? -/
def greatB (s : StC) (b : StB) : Bool := decide (1000 < nSum s b) || decide (40 < b.waits.length) || decide (20 < b.files.length) || decide (2000 < nSum s b + wSum b.waits + fSum b.files)
theorem wSum_snoc {l : List Wt} {k : Nat} (h : k < l.length) : wSum (l.take (k + 1)) = wSum (l.take k) + l[k].bytes.length := by
  unfold wSum; rw [List.take_succ_eq_append_getElem h, List.map_append, List.sum_append]; simp
theorem fSum_snoc {l : List Fb} {k : Nat} (h : k < l.length) : fSum (l.take (k + 1)) = fSum (l.take k) + (l[k].bytes.length + l[k].fl.name.length) := by
  unfold fSum; rw [List.take_succ_eq_append_getElem h, List.map_append, List.sum_append]; simp
theorem wSum_mem {l : List Wt} {x : Wt} (h : x ∈ l) : x.bytes.length ≤ wSum l := by
  induction l with
  | nil => cases h
  | cons y l ih => unfold wSum at *; simp only [List.map_cons, List.sum_cons]; rcases List.mem_cons.1 h with rfl | h; omega; have := ih h; omega
theorem fSum_mem {l : List Fb} {x : Fb} (h : x ∈ l) : x.bytes.length + x.fl.name.length ≤ fSum l := by
  induction l with
  | nil => cases h
  | cons y l ih => unfold fSum at *; simp only [List.map_cons, List.sum_cons]; rcases List.mem_cons.1 h with rfl | h; omega; have := ih h; omega
theorem wSum_le (l : List Wt) (m : Nat) (h : ∀ x ∈ l, x.bytes.length ≤ m) : wSum l ≤ l.length * m := by
  induction l with
  | nil => simp [wSum]
  | cons y l ih => have := ih (fun x hx => h x (by simp [hx])); have := h y (by simp); unfold wSum at *; simp only [List.map_cons, List.sum_cons, List.length_cons, Nat.succ_mul]; omega
theorem fSum_le (l : List Fb) (m : Nat) (h : ∀ x ∈ l, x.bytes.length + x.fl.name.length ≤ m) : fSum l ≤ l.length * m := by
  induction l with
  | nil => simp [fSum]
  | cons y l ih => have := ih (fun x hx => h x (by simp [hx])); have := h y (by simp); unfold fSum at *; simp only [List.map_cons, List.sum_cons, List.length_cons, Nat.succ_mul]; omega
theorem WaitsRaw.le {w : World} {a : Option Addr} {l : List Wt} (h : WaitsRaw w a l) : ∀ x ∈ l, x.bytes.length ≤ 140737488351232 := fun x hx => by
  obtain ⟨i, hi, rfl⟩ := List.mem_iff_getElem.1 hx
  obtain ⟨b, o, e, hl, hr⟩ := h (by omega)
  exact (hr i hi).2.2.2
theorem FilesRaw.le {w : World} {a : Option Addr} {l : List Fb} (h : FilesRaw w a l) : ∀ x ∈ l, x.bytes.length + x.fl.name.length ≤ 281474976702464 := fun x hx => by
  obtain ⟨i, hi, rfl⟩ := List.mem_iff_getElem.1 hx
  obtain ⟨b, o, e, hl, hr⟩ := h (by omega)
  have := (hr i hi).2.2.2
  omega
set_option maxHeartbeats 4000000 in
set_option maxRecDepth 100000 in
theorem great_any (s : StC) (b : StB) (w : World) (h : RawAt w s b) : Calls Tryz.prog 7 #[.agg s.cells.toArray] w fun e w' => e = .returned (.bool (greatB s b)) ∧ Below w.heap.size w w' := by
  have hz := (Blk.new w 34 s.cells)
  have hb1 : Below w.heap.size w (w.alloc (.cells s.cells.toArray 34)) := bl_alloc (Below.refl _ _) _
  obtain ⟨W1, hW1⟩ : ∃ W1, w.alloc (.cells s.cells.toArray 34) = W1 := ⟨_, rfl⟩
  rw [hW1] at hz hb1
  have hlt := hz.lt
  have hcell := Lib.hid (fun (W : World) (hW : Below W1.heap.size W1 W) => (⟨(hz.below hW).cell 24, (hz.below hW).cell 25⟩ : W.cell? ⟨w.heap.size, 24, none⟩ = some s.waits.v ∧ W.cell? ⟨w.heap.size, 25, none⟩ = some s.files.v))
  have c0 : W1.cell? ⟨w.heap.size, 0, none⟩ = some s.pat.v := hz.cell 0
  have c1 : W1.cell? ⟨w.heap.size, 1, none⟩ = some s.hold.v := hz.cell 1
  have c10 : W1.cell? ⟨w.heap.size, 10, none⟩ = some s.rest.v := hz.cell 10
  have c11 : W1.cell? ⟨w.heap.size, 11, none⟩ = some s.out.v := hz.cell 11
  have c13 : W1.cell? ⟨w.heap.size, 13, none⟩ = some s.place.v := hz.cell 13
  have c23 : W1.cell? ⟨w.heap.size, 23, none⟩ = some s.active.v := hz.cell 23
  have c26 : W1.cell? ⟨w.heap.size, 26, none⟩ = some s.lacks.v := hz.cell 26
  have c24 : W1.cell? ⟨w.heap.size, 24, none⟩ = some s.waits.v := hz.cell 24
  have c25 : W1.cell? ⟨w.heap.size, 25, none⟩ = some s.files.v := hz.cell 25
  have l1 := h.patL
  have l2 := h.holdL
  have l3 := h.restL
  have l4 := h.outL
  have l5 := h.placeL
  have l6 := h.activeL
  have l7 := h.lacksL
  have l8 := h.waitsL
  have l9 := h.filesL
  simp only [Sl3.v, h.patN, h.holdN, h.restN, h.outN, h.placeN, h.waitsN, h.filesN] at c0 c1 c10 c11 c13 c23 c24 c25 c26 hcell
  have hws := Lib.hid h.waitsAt
  have hfs := Lib.hid h.filesAt
  have hwl := Lib.hid (wSum_le _ _ h.waitsAt.le)
  have hfl := Lib.hid (fSum_le _ _ h.filesAt.le)
  have hgr : greatB s b = (decide (1000 < nSum s b) || decide (40 < b.waits.length) || decide (20 < b.files.length) || decide (2000 < nSum s b + wSum b.waits + fSum b.files)) := rfl
  have hns : nSum s b = b.pat.length + b.hold.length + b.rest.length + b.out.length + b.place.length + s.active.n + s.lacks.n := rfl
  generalize greatB s b = GB at *
  generalize nSum s b = N at *
  clear hz h
  generalize s.cells.toArray = cs at *
  generalize s.active.n = n6 at *
  generalize s.lacks.n = n7 at *
  generalize s.waits.a = wa at *
  generalize s.files.a = fa at *
  generalize b.waits = lw at *
  generalize b.files = lf at *
  generalize b.pat.length = n1 at *
  generalize b.hold.length = n2 at *
  generalize b.rest.length = n3 at *
  generalize b.out.length = n4 at *
  generalize b.place.length = n5 at *
  replace hgr := Lib.hid hgr
  have e1 : (n1 : Int) + n2 + n3 + n4 + n5 + n6 + n7 = (N : Int) := by omega
  replace hns := Lib.hid hns
  go_enter Tryz.func7, Tryz.ntmps7
  by_cases q1 : 1000 < N
  · have q1' : (1000 : Int) < N := by omega
    go_wp2_with fail
    go_ret
    exact ⟨ret_bool (by rw [hgr.out]; simp [q1]), hb1⟩
  by_cases q2 : 40 < lw.length
  · go_wp2_with fail
    go_ret
    exact ⟨ret_bool (by rw [hgr.out]; simp [q2]), hb1⟩
  by_cases q3 : 20 < lf.length
  · go_wp2_with fail
    go_ret
    exact ⟨ret_bool (by rw [hgr.out]; simp [q3]), hb1⟩
  have b1 : decide ((1000 : Int) < N) = false := by simp; omega
  have b2 : decide ((40 : Int) < lw.length) = false := by simp; omega
  have b3 : decide ((20 : Int) < lf.length) = false := by simp; omega
  have hret : ∀ w', Below W1.heap.size W1 w' → (Ending.returned (.bool (decide ((2000 : Int) < (N : Int) + wSum lw + fSum lf))) = .returned (.bool GB)) ∧ Below w.heap.size w w' := fun w' hb => by
    refine ⟨ret_bool ?_, bl_trans hb1 hb⟩
    rw [hgr.out]
    simp only [decide_eq_false q1, decide_eq_false q2, decide_eq_false q3, Bool.false_or]
    rw [decide_eq_decide]; omega
  replace hret := Lib.hid hret
  clear hgr
  have hz1 : lw.length ≤ 40 := by omega
  have hz2 : lf.length ≤ 20 := by omega
  have hz3 : N ≤ 1000 := by omega
  go_wp2_with fail
  clear hW1 c0 c1 c10 c11 c13 c23 c24 c25 c26
  go_loopg [3, 4] lw.length (fun gh n i wr => ∃ k : Nat, gh = lw.length - k ∧ i = .int .i64 (k : Int) ∧ k ≤ lw.length ∧ n = .int .i64 ((N : Int) + wSum (lw.take k)) ∧ wSum (lw.take k) ≤ k * 140737488351232 ∧ Below W1.heap.size W1 wr)
  case atStart => exact ⟨0, rfl, rfl, by omega, by simp [wSum], by simp [wSum], Below.refl _ _⟩
  case round =>
    obtain ⟨k, rfl, rfl, hk, rfl, hsl, hb⟩ := hrel
    obtain ⟨c24, c25⟩ := hcell.out wr hb
    by_cases hlt : k < lw.length
    · obtain ⟨bb, o, rfl, hbl, hc⟩ := hws.out (by omega)
      obtain ⟨d0, d1, d2, d3⟩ := hc k hlt
      have d1' := ((bl_trans hb1 hb).cell (p := ⟨bb, o + k * 2 + 1, none⟩) hbl).trans d1
      have hsn := wSum_snoc hlt
      obtain ⟨S1, hS1⟩ : ∃ S1, wSum (lw.take (k + 1)) = S1 := ⟨_, rfl⟩
      rw [hS1] at hsn
      replace hS1 := Lib.hid hS1
      generalize wSum (lw.take k) = S0 at *
      clear hc d0 d1 d2
      generalize lw[k].bytes.length = nb at *
      replace hsn := Lib.hid hsn
      go_wp2_with fail
      all_goals go_roundg (lw.length - (k + 1))
      case measure => omega
      case rel => exact ⟨k + 1, rfl, by go_num, by omega, by rw [hS1.out]; have := hsn.out; exact congrArg (Value.int .i64) (by omega), by rw [hS1.out]; have := hsn.out; omega, hb⟩
    · obtain rfl : k = lw.length := by omega
      rw [List.take_length] at *
      generalize wSum lw = S0 at *
      go_wp2_with fail
      go_loopg [3, 5] lf.length (fun gh n i wr => ∃ k : Nat, gh = lf.length - k ∧ i = .int .i64 (k : Int) ∧ k ≤ lf.length ∧ n = .int .i64 ((N : Int) + S0 + fSum (lf.take k)) ∧ fSum (lf.take k) ≤ k * 281474976702464 ∧ Below W1.heap.size W1 wr)
      case atStart => exact ⟨0, rfl, rfl, by omega, by simp [fSum], by simp [fSum], hb⟩
      case round =>
        obtain ⟨k, rfl, rfl, hk, rfl, hsl2, hb⟩ := hrel
        obtain ⟨_, c25⟩ := hcell.out wr hb
        by_cases hlt : k < lf.length
        · obtain ⟨bb, o, rfl, hbl, hc⟩ := hfs.out (by omega)
          obtain ⟨d0, d1, d2, d3, d4⟩ := hc k hlt
          have d0' := ((bl_trans hb1 hb).cell (p := ⟨bb, o + k * 2, none⟩) hbl).trans d0
          have d1' := ((bl_trans hb1 hb).cell (p := ⟨bb, o + k * 2 + 1, none⟩) hbl).trans d1
          have hsn := fSum_snoc hlt
          obtain ⟨S1, hS1⟩ : ∃ S1, fSum (lf.take (k + 1)) = S1 := ⟨_, rfl⟩
          rw [hS1] at hsn
          replace hS1 := Lib.hid hS1
          generalize fSum (lf.take k) = S2 at *
          clear hc d0 d1 d2
          generalize lf[k].bytes.length = nb at *
          have hnm : (⟨lf[k].fl.name.toArray⟩ : ByteArray).size = lf[k].fl.name.length := by show lf[k].fl.name.toArray.size = _; simp
          unfold strV at d0'
          generalize (⟨lf[k].fl.name.toArray⟩ : ByteArray) = nm at *
          rw [← hnm] at d3 hsn
          clear hnm
          replace hsn := Lib.hid hsn
          go_wp2_with (go_quiet (fail))
          all_goals go_roundg (lf.length - (k + 1))
          case measure => omega
          case rel => exact ⟨k + 1, rfl, by go_num, by omega, by rw [hS1.out]; have := hsn.out; exact congrArg (Value.int .i64) (by omega), by rw [hS1.out]; have := hsn.out; omega, bl_drewN hb _⟩
        · obtain rfl : k = lf.length := by omega
          rw [List.take_length] at *
          generalize fSum lf = S1 at *
          go_wp2_with fail
          go_ret
          exact hret.out _ hb
end Go.Proofs.YtepdfkgadigafaaGreatDoor
