/-
  A state as it comes in, and whether it is great (palinoderef20.Great).
  Conditions: as each theorem states them.
-/
import Derived.Test.YtcjcflmnghhbaaaGreatCondJa
import Derived.Deep.LoopGhost
import Derived.Test.YtcjcflmnghhbaaaGreatReadsB
namespace Go.Proofs.YtcjcflmnghhbaaaGreat
open Go.RowKit
set_option linter.unusedVariables false
set_option linter.unusedSimpArgs false
structure Wt where
  kind : Int
  sl : Sl3
  bytes : List UInt8
structure Fl where
  name : List UInt8
  a : Option Addr
  n : Nat
  c : Nat
structure Fb where
  fl : Fl
  bytes : List UInt8
/-- what a state has -/
structure StB where
  pat : List UInt8
  hold : List UInt8
  rest : List UInt8
  out : List UInt8
  place : List UInt8
  waits : List Wt
  files : List Fb
def WaitsRaw (w : World) (a : Option Addr) (l : List Wt) : Prop := 0 < l.length → ∃ b o, a = some ⟨b, o, none⟩ ∧ b < w.heap.size ∧ ∀ i (h : i < l.length), w.cell? ⟨b, o + i * 2, none⟩ = some (.int .i64 l[i].kind) ∧ w.cell? ⟨b, o + i * 2 + 1, none⟩ = some (.slice l[i].sl.a l[i].bytes.length l[i].sl.c) ∧ BytesAt w l[i].sl.a l[i].bytes ∧ l[i].bytes.length ≤ 140737488351232
def FilesRaw (w : World) (a : Option Addr) (l : List Fb) : Prop := 0 < l.length → ∃ b o, a = some ⟨b, o, none⟩ ∧ b < w.heap.size ∧ ∀ i (h : i < l.length), w.cell? ⟨b, o + i * 2, none⟩ = some (strV l[i].fl.name) ∧ w.cell? ⟨b, o + i * 2 + 1, none⟩ = some (.slice l[i].fl.a l[i].bytes.length l[i].fl.c) ∧ BytesAt w l[i].fl.a l[i].bytes ∧ l[i].fl.name.length ≤ 140737488351232 ∧ l[i].bytes.length ≤ 140737488351232
structure RawAt (w : World) (s : StC) (b : StB) : Prop where
  patN : s.pat.n = b.pat.length
  holdN : s.hold.n = b.hold.length
  restN : s.rest.n = b.rest.length
  outN : s.out.n = b.out.length
  placeN : s.place.n = b.place.length
  patL : b.pat.length ≤ 140737488351232
  holdL : b.hold.length ≤ 140737488351232
  restL : b.rest.length ≤ 140737488351232
  outL : b.out.length ≤ 140737488351232
  placeL : b.place.length ≤ 140737488351232
  activeL : s.active.n ≤ 140737488351232
  lacksL : s.lacks.n ≤ 140737488351232
  patC : b.pat.length ≤ s.pat.c
  holdC : b.hold.length ≤ s.hold.c
  restC : b.rest.length ≤ s.rest.c
  outC : b.out.length ≤ s.out.c
  patAt : BytesAt w s.pat.a b.pat
  holdAt : BytesAt w s.hold.a b.hold
  restAt : BytesAt w s.rest.a b.rest
  outAt : BytesAt w s.out.a b.out
  placeAt : BytesAt w s.place.a b.place
  waitsN : s.waits.n = b.waits.length
  waitsL : b.waits.length ≤ 140737488351232
  waitsAt : WaitsRaw w s.waits.a b.waits
  filesN : s.files.n = b.files.length
  filesL : b.files.length ≤ 140737488351232
  filesAt : FilesRaw w s.files.a b.files
  flN : ∀ f ∈ b.files, f.fl.n = f.bytes.length
  line : -9223372036854775808 ≤ s.line ∧ s.line ≤ 9223372036854775807
  last : -9223372036854775808 ≤ s.last ∧ s.last ≤ 9223372036854775807
  cur : -9223372036854775808 ≤ s.cur ∧ s.cur ≤ 9223372036854775807
  missing : -9223372036854775808 ≤ s.missing ∧ s.missing ≤ 9223372036854775807
  pc : -9223372036854775808 ≤ s.pc ∧ s.pc ≤ 9223372036854775807
  phase : -9223372036854775808 ≤ s.phase ∧ s.phase ≤ 9223372036854775807
  exit : -9223372036854775808 ≤ s.exit ∧ s.exit ≤ 9223372036854775807
  stop : -9223372036854775808 ≤ s.stop ∧ s.stop ≤ 9223372036854775807
  err : -9223372036854775808 ≤ s.err ∧ s.err ≤ 9223372036854775807
def wSum (l : List Wt) : Nat := (l.map fun x => x.bytes.length).sum
def fSum (l : List Fb) : Nat := (l.map fun x => x.bytes.length + x.fl.name.length).sum
def nSum (s : StC) (b : StB) : Nat := b.pat.length + b.hold.length + b.rest.length + b.out.length + b.place.length + s.active.n + s.lacks.n
/-- is there more than is looked at? -/
def greatB (s : StC) (b : StB) : Bool := decide (1000 < nSum s b) || decide (40 < b.waits.length) || decide (20 < b.files.length) || decide (2000 < nSum s b + wSum b.waits + fSum b.files)
theorem wSum_snoc {l : List Wt} {k : Nat} (h : k < l.length) : wSum (l.take (k + 1)) = wSum (l.take k) + l[k].bytes.length := by
  unfold wSum; rw [List.take_succ_eq_append_getElem h, List.map_append, List.sum_append]; simp
theorem fSum_snoc {l : List Fb} {k : Nat} (h : k < l.length) : fSum (l.take (k + 1)) = fSum (l.take k) + (l[k].bytes.length + l[k].fl.name.length) := by
  unfold fSum; rw [List.take_succ_eq_append_getElem h, List.map_append, List.sum_append]; simp
theorem wSum_mem {l : List Wt} {x : Wt} (h : x ∈ l) : x.bytes.length ≤ wSum l := by
  induction l with
  | nil => cases h
  | cons y l ih => unfold wSum at *; simp only [List.map_cons, List.sum_cons]; rcases List.mem_cons.1 h with rfl | h; omega; have := ih h; omega
theorem fSum_mem {l : List Fb} {x : Fb} (h : x ∈ l) : x.bytes.length + x.fl.name.length ≤ fSum l := by
  induction l with
  | nil => cases h
  | cons y l ih => unfold fSum at *; simp only [List.map_cons, List.sum_cons]; rcases List.mem_cons.1 h with rfl | h; omega; have := ih h; omega
theorem wSum_le (l : List Wt) (m : Nat) (h : ∀ x ∈ l, x.bytes.length ≤ m) : wSum l ≤ l.length * m := by
  induction l with
  | nil => simp [wSum]
  | cons y l ih => have := ih (fun x hx => h x (by simp [hx])); have := h y (by simp); unfold wSum at *; simp only [List.map_cons, List.sum_cons, List.length_cons, Nat.succ_mul]; omega
theorem fSum_le (l : List Fb) (m : Nat) (h : ∀ x ∈ l, x.bytes.length + x.fl.name.length ≤ m) : fSum l ≤ l.length * m := by
  induction l with
  | nil => simp [fSum]
  | cons y l ih => have := ih (fun x hx => h x (by simp [hx])); have := h y (by simp); unfold fSum at *; simp only [List.map_cons, List.sum_cons, List.length_cons, Nat.succ_mul]; omega
theorem WaitsRaw.le {w : World} {a : Option Addr} {l : List Wt} (h : WaitsRaw w a l) : ∀ x ∈ l, x.bytes.length ≤ 140737488351232 := fun x hx => by
  obtain ⟨i, hi, rfl⟩ := List.mem_iff_getElem.1 hx
  obtain ⟨b, o, e, hl, hr⟩ := h (by omega)
  exact (hr i hi).2.2.2
theorem FilesRaw.le {w : World} {a : Option Addr} {l : List Fb} (h : FilesRaw w a l) : ∀ x ∈ l, x.bytes.length + x.fl.name.length ≤ 281474976702464 := fun x hx => by
  obtain ⟨i, hi, rfl⟩ := List.mem_iff_getElem.1 hx
  obtain ⟨b, o, e, hl, hr⟩ := h (by omega)
  have := (hr i hi).2.2.2
  omega
set_option maxHeartbeats 4000000 in
set_option maxRecDepth 100000 in
theorem great_any (s : StC) (b : StB) (w : World) (h : RawAt w s b) : Calls Tryz.prog 4 #[.agg s.cells.toArray] w fun e w' => e = .returned (.bool (greatB s b)) ∧ Below w.heap.size w w' := by
  have hz := (Blk.new w 35 s.cells)
  have hb1 : Below w.heap.size w (w.alloc (.cells s.cells.toArray 35)) := bl_alloc (Below.refl _ _) _
  obtain ⟨W1, hW1⟩ : ∃ W1, w.alloc (.cells s.cells.toArray 35) = W1 := ⟨_, rfl⟩
  rw [hW1] at hz hb1
  have hlt := hz.lt
  have hcell := Lib.hid (fun (W : World) (hW : Below W1.heap.size W1 W) => (⟨(hz.below hW).cell 24, (hz.below hW).cell 25⟩ : W.cell? ⟨w.heap.size, 24, none⟩ = some s.waits.v ∧ W.cell? ⟨w.heap.size, 25, none⟩ = some s.files.v))
  have c0 : W1.cell? ⟨w.heap.size, 0, none⟩ = some s.pat.v := hz.cell 0
  have c1 : W1.cell? ⟨w.heap.size, 1, none⟩ = some s.hold.v := hz.cell 1
  have c10 : W1.cell? ⟨w.heap.size, 10, none⟩ = some s.rest.v := hz.cell 10
  have c11 : W1.cell? ⟨w.heap.size, 11, none⟩ = some s.out.v := hz.cell 11
  have c13 : W1.cell? ⟨w.heap.size, 13, none⟩ = some s.place.v := hz.cell 13
  have c23 : W1.cell? ⟨w.heap.size, 23, none⟩ = some s.active.v := hz.cell 23
  have c26 : W1.cell? ⟨w.heap.size, 26, none⟩ = some s.lacks.v := hz.cell 26
  have c24 : W1.cell? ⟨w.heap.size, 24, none⟩ = some s.waits.v := hz.cell 24
  have c25 : W1.cell? ⟨w.heap.size, 25, none⟩ = some s.files.v := hz.cell 25
  have l1 := h.patL
  have l2 := h.holdL
  have l3 := h.restL
  have l4 := h.outL
  have l5 := h.placeL
  have l6 := h.activeL
  have l7 := h.lacksL
  have l8 := h.waitsL
  have l9 := h.filesL
  simp only [Sl3.v, h.patN, h.holdN, h.restN, h.outN, h.placeN, h.waitsN, h.filesN] at c0 c1 c10 c11 c13 c23 c24 c25 c26 hcell
  have hws := Lib.hid h.waitsAt
  have hfs := Lib.hid h.filesAt
  have hwl := Lib.hid (wSum_le _ _ h.waitsAt.le)
  have hfl := Lib.hid (fSum_le _ _ h.filesAt.le)
  have hgr : greatB s b = (decide (1000 < nSum s b) || decide (40 < b.waits.length) || decide (20 < b.files.length) || decide (2000 < nSum s b + wSum b.waits + fSum b.files)) := rfl
  have hns : nSum s b = b.pat.length + b.hold.length + b.rest.length + b.out.length + b.place.length + s.active.n + s.lacks.n := rfl
  generalize greatB s b = GB at *
  generalize nSum s b = N at *
  clear hz h
  generalize s.cells.toArray = cs at *
  generalize s.active.n = n6 at *
  generalize s.lacks.n = n7 at *
  generalize s.waits.a = wa at *
  generalize s.files.a = fa at *
  generalize b.waits = lw at *
  generalize b.files = lf at *
  generalize b.pat.length = n1 at *
  generalize b.hold.length = n2 at *
  generalize b.rest.length = n3 at *
  generalize b.out.length = n4 at *
  generalize b.place.length = n5 at *
  replace hgr := Lib.hid hgr
  have e1 : (n1 : Int) + n2 + n3 + n4 + n5 + n6 + n7 = (N : Int) := by omega
  replace hns := Lib.hid hns
  go_enter Tryz.func4, Tryz.ntmps4
  by_cases q1 : 1000 < N
  · have q1' : (1000 : Int) < N := by omega
    go_wp2_with fail
    go_ret
    exact ⟨ret_bool (by rw [hgr.out]; simp [q1]), hb1⟩
  by_cases q2 : 40 < lw.length
  · go_wp2_with fail
    go_ret
    exact ⟨ret_bool (by rw [hgr.out]; simp [q2]), hb1⟩
  by_cases q3 : 20 < lf.length
  · go_wp2_with fail
    go_ret
    exact ⟨ret_bool (by rw [hgr.out]; simp [q3]), hb1⟩
  have b1 : decide ((1000 : Int) < N) = false := by simp; omega
  have b2 : decide ((40 : Int) < lw.length) = false := by simp; omega
  have b3 : decide ((20 : Int) < lf.length) = false := by simp; omega
  have hret : ∀ w', Below W1.heap.size W1 w' → (Ending.returned (.bool (decide ((2000 : Int) < (N : Int) + wSum lw + fSum lf))) = .returned (.bool GB)) ∧ Below w.heap.size w w' := fun w' hb => by
    refine ⟨ret_bool ?_, bl_trans hb1 hb⟩
    rw [hgr.out]
    simp only [decide_eq_false q1, decide_eq_false q2, decide_eq_false q3, Bool.false_or]
    rw [decide_eq_decide]; omega
  replace hret := Lib.hid hret
  clear hgr
  have hz1 : lw.length ≤ 40 := by omega
  have hz2 : lf.length ≤ 20 := by omega
  have hz3 : N ≤ 1000 := by omega
  go_wp2_with fail
  clear hW1 c0 c1 c10 c11 c13 c23 c24 c25 c26
  go_loopg [3, 4] lw.length (fun gh n i wr => ∃ k : Nat, gh = lw.length - k ∧ i = .int .i64 (k : Int) ∧ k ≤ lw.length ∧ n = .int .i64 ((N : Int) + wSum (lw.take k)) ∧ wSum (lw.take k) ≤ k * 140737488351232 ∧ Below W1.heap.size W1 wr)
  case atStart => exact ⟨0, rfl, rfl, by omega, by simp [wSum], by simp [wSum], Below.refl _ _⟩
  case round =>
    obtain ⟨k, rfl, rfl, hk, rfl, hsl, hb⟩ := hrel
    obtain ⟨c24, c25⟩ := hcell.out wr hb
    by_cases hlt : k < lw.length
    · obtain ⟨bb, o, rfl, hbl, hc⟩ := hws.out (by omega)
      obtain ⟨d0, d1, d2, d3⟩ := hc k hlt
      have d1' := ((bl_trans hb1 hb).cell (p := ⟨bb, o + k * 2 + 1, none⟩) hbl).trans d1
      have hsn := wSum_snoc hlt
      obtain ⟨S1, hS1⟩ : ∃ S1, wSum (lw.take (k + 1)) = S1 := ⟨_, rfl⟩
      rw [hS1] at hsn
      replace hS1 := Lib.hid hS1
      generalize wSum (lw.take k) = S0 at *
      clear hc d0 d1 d2
      generalize lw[k].bytes.length = nb at *
      replace hsn := Lib.hid hsn
      go_wp2_with fail
      all_goals go_roundg (lw.length - (k + 1))
      case measure => omega
      case rel => exact ⟨k + 1, rfl, by go_num, by omega, by rw [hS1.out]; have := hsn.out; exact congrArg (Value.int .i64) (by omega), by rw [hS1.out]; have := hsn.out; omega, hb⟩
    · obtain rfl : k = lw.length := by omega
      rw [List.take_length] at *
      generalize wSum lw = S0 at *
      go_wp2_with fail
      go_loopg [3, 5] lf.length (fun gh n i wr => ∃ k : Nat, gh = lf.length - k ∧ i = .int .i64 (k : Int) ∧ k ≤ lf.length ∧ n = .int .i64 ((N : Int) + S0 + fSum (lf.take k)) ∧ fSum (lf.take k) ≤ k * 281474976702464 ∧ Below W1.heap.size W1 wr)
      case atStart => exact ⟨0, rfl, rfl, by omega, by simp [fSum], by simp [fSum], hb⟩
      case round =>
        obtain ⟨k, rfl, rfl, hk, rfl, hsl2, hb⟩ := hrel
        obtain ⟨_, c25⟩ := hcell.out wr hb
        by_cases hlt : k < lf.length
        · obtain ⟨bb, o, rfl, hbl, hc⟩ := hfs.out (by omega)
          obtain ⟨d0, d1, d2, d3, d4⟩ := hc k hlt
          have d0' := ((bl_trans hb1 hb).cell (p := ⟨bb, o + k * 2, none⟩) hbl).trans d0
          have d1' := ((bl_trans hb1 hb).cell (p := ⟨bb, o + k * 2 + 1, none⟩) hbl).trans d1
          have hsn := fSum_snoc hlt
          obtain ⟨S1, hS1⟩ : ∃ S1, fSum (lf.take (k + 1)) = S1 := ⟨_, rfl⟩
          rw [hS1] at hsn
          replace hS1 := Lib.hid hS1
          generalize fSum (lf.take k) = S2 at *
          clear hc d0 d1 d2
          generalize lf[k].bytes.length = nb at *
          have hnm : (⟨lf[k].fl.name.toArray⟩ : ByteArray).size = lf[k].fl.name.length := by show lf[k].fl.name.toArray.size = _; simp
          unfold strV at d0'
          generalize (⟨lf[k].fl.name.toArray⟩ : ByteArray) = nm at *
          rw [← hnm] at d3 hsn
          clear hnm
          replace hsn := Lib.hid hsn
          go_wp2_with (go_quiet (fail))
          all_goals go_roundg (lf.length - (k + 1))
          case measure => omega
          case rel => exact ⟨k + 1, rfl, by go_num, by omega, by rw [hS1.out]; have := hsn.out; exact congrArg (Value.int .i64) (by omega), by rw [hS1.out]; have := hsn.out; omega, bl_drewN hb _⟩
        · obtain rfl : k = lf.length := by omega
          rw [List.take_length] at *
          generalize fSum lf = S1 at *
          go_wp2_with fail
          go_ret
          exact hret.out _ hb
/-- what a condition sees of a state that came in -/
def svOf (s : StC) (b : StB) : CM.Sv := ⟨s.line, s.pc, s.exit, (s.waits.n : Int), b.pat, b.hold, b.rest, b.out, s.subst, s.silent, s.quit, s.again, s.err, s.phase⟩
theorem RawAt.sv {w : World} {s : StC} {b : StB} (h : RawAt w s b) (hg : greatB s b = false) : StSv w s (svOf s b) := by
  unfold greatB at hg
  simp only [Bool.or_eq_false_iff, decide_eq_false_iff_not, Nat.not_lt] at hg
  obtain ⟨⟨⟨h1, h2⟩, h3⟩, h4⟩ := hg
  unfold nSum at h1 h4
  exact ⟨rfl, rfl, rfl, rfl, ⟨h.patN, h.patC, h.patAt, by simp only [svOf]; omega⟩, ⟨h.holdN, h.holdC, h.holdAt, by simp only [svOf]; omega⟩, ⟨h.restN, h.restC, h.restAt, by simp only [svOf]; omega⟩, ⟨h.outN, h.outC, h.outAt, by simp only [svOf]; omega⟩, rfl, rfl, rfl, rfl, rfl, rfl⟩
theorem WaitsRaw.below {w w' : World} {a : Option Addr} {l : List Wt} (h : WaitsRaw w a l) (hb : Below w.heap.size w w') : WaitsRaw w' a l := fun h0 => by
  obtain ⟨b, o, e, hl, hr⟩ := h h0
  refine ⟨b, o, e, Nat.lt_of_lt_of_le hl hb.size, fun i hi => ?_⟩
  obtain ⟨q1, q2, q3, q4⟩ := hr i hi
  exact ⟨(hb.cell (p := ⟨b, o + i * 2, none⟩) hl).trans q1, (hb.cell (p := ⟨b, o + i * 2 + 1, none⟩) hl).trans q2, q3.below hb, q4⟩
theorem FilesRaw.below {w w' : World} {a : Option Addr} {l : List Fb} (h : FilesRaw w a l) (hb : Below w.heap.size w w') : FilesRaw w' a l := fun h0 => by
  obtain ⟨b, o, e, hl, hr⟩ := h h0
  refine ⟨b, o, e, Nat.lt_of_lt_of_le hl hb.size, fun i hi => ?_⟩
  obtain ⟨q1, q2, q3, q4⟩ := hr i hi
  exact ⟨(hb.cell (p := ⟨b, o + i * 2, none⟩) hl).trans q1, (hb.cell (p := ⟨b, o + i * 2 + 1, none⟩) hl).trans q2, q3.below hb, q4⟩
theorem RawAt.below {w w' : World} {s : StC} {b : StB} (h : RawAt w s b) (hb : Below w.heap.size w w') : RawAt w' s b :=
  { h with patAt := h.patAt.below hb, holdAt := h.holdAt.below hb, restAt := h.restAt.below hb, outAt := h.outAt.below hb, placeAt := h.placeAt.below hb, waitsAt := h.waitsAt.below hb, filesAt := h.filesAt.below hb }
end Go.Proofs.YtcjcflmnghhbaaaGreat
/-
  A state that comes in as data lies as 'RawAt' says.
  Conditions: as each theorem states them.
-/
namespace Go.Proofs.YtcjcflmnghhbaaaGreat
open Go.RowKit
set_option linter.unusedVariables false
set_option linter.unusedSimpArgs false
abbrev rWait := rPair (rInt .i64) (rPair (rSlB rByte) rUnit)
abbrev rFile := rPair rStrB (rPair (rSlB rByte) rUnit)
abbrev rState := rPair (rPair (rSlB rByte) (rPair (rSlB rByte) (rPair rBool (rPair (rInt .i64) (rPair rBool (rPair (rInt .i64) rUnit))))))
  (rPair (rPair (rInt .i64) (rPair (rInt .i64) (rPair (rInt .i64) (rPair (rInt .i64) (rPair (rSlB rByte) rUnit)))))
  (rPair (rPair (rSlB rByte) (rPair rBool (rPair (rSlB rByte) (rPair rBool rUnit))))
  (rPair (rInt .i64) (rPair (rInt .i64) (rPair (rInt .i64) (rPair (rInt .i64) (rPair (rInt .i64) (rPair rBool (rPair rBool (rPair rBool
  (rPair (rSlB rBool) (rPair (rSlB rWait) (rPair (rSlB rFile) (rPair (rSlB rBool) rUnit))))))))))))))
theorem bytes_of {W : World} {v : List Value} {xs : List UInt8} (h : (rSlB rByte).ok (Sub.all W) v xs) : ∃ a c, v = [.slice a xs.length c] ∧ BytesAt W a xs ∧ xs.length ≤ 140737488351232 ∧ xs.length ≤ c := by
  obtain ⟨⟨a, c, e, hcp, _, hr⟩, hl⟩ := h
  refine ⟨a, c, e, fun h0 => ?_, by simpa [reachBytes] using hl, hcp⟩
  obtain ⟨b, o, ea, hrow⟩ := hr h0
  have hb := hrow.bytes (Sub.all_in W)
  exact ⟨b, o, ea, World.block_lt_of_cell? W ⟨b, o + 0, none⟩ (hb 0 h0), hb⟩
theorem sl_of {α : Type} {A : Rp α} {W : World} {v : List Value} {xs : List α} (h : (rSlB A).ok (Sub.all W) v xs) : ∃ a c, v = [.slice a xs.length c] ∧ xs.length ≤ 140737488351232 ∧ (0 < xs.length → ∃ b o, a = some ⟨b, o, none⟩ ∧ RowAt A (Sub.all W) b o xs) := by
  obtain ⟨⟨a, c, e, _, _, hr⟩, hl⟩ := h
  exact ⟨a, c, e, by simpa [reachBytes] using hl, hr⟩
theorem wf64 {m : Int} (wm : (Lit.int .i64 m).wf = true) : -9223372036854775808 ≤ m ∧ m ≤ 9223372036854775807 := by
  simp [Lit.wf, IntKind.min, IntKind.max, IntKind.signed, IntKind.bits] at wm; omega
theorem strV_eq {s : ByteArray} {x : List UInt8} (h : s.data.toList = x) : Value.string s = strV x := by
  subst h
  show Value.string s = Value.string ⟨s.data.toList.toArray⟩
  rw [Array.toArray_toList]
theorem waits_of {W : World} {a : Option Addr} {xs : List (Int × List UInt8 × Unit)} (hr : 0 < xs.length → ∃ b o, a = some ⟨b, o, none⟩ ∧ RowAt rWait (Sub.all W) b o xs) :
    ∃ l : List Wt, l.length = xs.length ∧ WaitsRaw W a l := by
  by_cases h0 : 0 < xs.length
  · obtain ⟨b, o, e, hrow⟩ := hr h0
    have hx : ∀ i, i < xs.length → ∃ y : Wt, W.cell? ⟨b, o + i * 2, none⟩ = some (.int .i64 y.kind) ∧ W.cell? ⟨b, o + i * 2 + 1, none⟩ = some (.slice y.sl.a y.bytes.length y.sl.c) ∧ BytesAt W y.sl.a y.bytes ∧ y.bytes.length ≤ 140737488351232 := by
      intro i hi
      obtain ⟨cs, ⟨c1, c2, e1, ⟨e2, _⟩, c3, c4, e3, h3, e4⟩, hc⟩ := hrow i hi
      obtain ⟨sa, sc, e5, hb, hl, _⟩ := bytes_of h3
      subst e1 e2 e3 e5
      have h1 := hc.cell (Sub.all_in W) (j := 0) (by simp)
      have h2 := hc.cell (Sub.all_in W) (j := 1) (by simp)
      exact ⟨⟨xs[i].1, ⟨sa, xs[i].2.1.length, sc⟩, xs[i].2.1⟩, h1, h2, hb, hl⟩
    have : Inhabited Wt := ⟨⟨0, ⟨none, 0, 0⟩, []⟩⟩
    obtain ⟨f, hf⟩ := Deep.choose_lt (α := Wt) hx
    refine ⟨(List.range xs.length).map f, by simp, fun _ => ⟨b, o, e, ?_, fun i hi => ?_⟩⟩
    · exact World.block_lt_of_cell? W ⟨b, o + 0 * 2, none⟩ (hf 0 h0).1
    · have hi' : i < xs.length := by simpa using hi
      rw [List.getElem_map, List.getElem_range]
      exact hf i hi'
  · exact ⟨[], by simp; omega, fun h => by simp at h⟩
theorem files_of {W : World} {a : Option Addr} {xs : List (List UInt8 × List UInt8 × Unit)} (hr : 0 < xs.length → ∃ b o, a = some ⟨b, o, none⟩ ∧ RowAt rFile (Sub.all W) b o xs) :
    ∃ l : List Fb, l.length = xs.length ∧ FilesRaw W a l ∧ ∀ f ∈ l, f.fl.n = f.bytes.length := by
  by_cases h0 : 0 < xs.length
  · obtain ⟨b, o, e, hrow⟩ := hr h0
    have hx : ∀ i, i < xs.length → ∃ y : Fb, (W.cell? ⟨b, o + i * 2, none⟩ = some (strV y.fl.name) ∧ W.cell? ⟨b, o + i * 2 + 1, none⟩ = some (.slice y.fl.a y.bytes.length y.fl.c) ∧ BytesAt W y.fl.a y.bytes ∧ y.fl.name.length ≤ 140737488351232 ∧ y.bytes.length ≤ 140737488351232) ∧ y.fl.n = y.bytes.length := by
      intro i hi
      obtain ⟨cs, ⟨c1, c2, e1, ⟨s, e2, es, hs⟩, c3, c4, e3, h3, e4⟩, hc⟩ := hrow i hi
      obtain ⟨sa, sc, e5, hb, hl, _⟩ := bytes_of h3
      subst e1 e2 e3 e5
      have h1 := hc.cell (Sub.all_in W) (j := 0) (by simp)
      have h2 := hc.cell (Sub.all_in W) (j := 1) (by simp)
      refine ⟨⟨⟨xs[i].1, sa, xs[i].2.1.length, sc⟩, xs[i].2.1⟩, ⟨?_, h2, hb, ?_, hl⟩, rfl⟩
      · rw [← strV_eq es]; exact h1
      · rw [← es, Array.length_toList]; simpa [reachBytes] using hs
    have : Inhabited Fb := ⟨⟨⟨[], none, 0, 0⟩, []⟩⟩
    obtain ⟨f, hf⟩ := Deep.choose_lt (α := Fb) hx
    refine ⟨(List.range xs.length).map f, by simp, fun _ => ⟨b, o, e, ?_, fun i hi => ?_⟩, fun y hy => ?_⟩
    · exact World.block_lt_of_cell? W ⟨b, o + 0 * 2, none⟩ (hf 0 h0).1.1
    · have hi' : i < xs.length := by simpa using hi
      rw [List.getElem_map, List.getElem_range]
      exact (hf i hi').1
    · obtain ⟨i, hi, rfl⟩ := List.mem_map.1 hy
      exact (hf i (List.mem_range.1 hi)).2
  · exact ⟨[], by simp; omega, fun h => by simp at h, fun f h => by cases h⟩
theorem raw_of {W : World} {cs : List Value} {x} (h : rState.ok (Sub.all W) cs x) : ∃ s b, cs = s.cells ∧ RawAt W s b := by
  obtain ⟨xr, xi, xo, x1, x2, x3, x4, x5, x6, x7, x8, x9, x10, x11, x12, xu⟩ := x
  obtain ⟨y1, y2, y3, y4, y5, y6, yu⟩ := xr
  obtain ⟨z1, z2, z3, z4, z5, zu⟩ := xi
  obtain ⟨v1, v2, v3, v4, vu⟩ := xo
  obtain ⟨p0, q0, r0, ⟨a1, k1, f1, g1, a2, k2, f2, g2, a3, k3, f3, g3, a4, k4, f4, ⟨g4, w4⟩, a5, k5, f5, g5, a6, k6, f6, ⟨g6, w6⟩, g7⟩, h⟩ := h
  obtain ⟨p1, q1, r1, ⟨b1, l1, i1, ⟨j1, u1⟩, b2, l2, i2, ⟨j2, u2⟩, b3, l3, i3, ⟨j3, u3⟩, b4, l4, i4, ⟨j4, u4⟩, b5, l5, i5, j5, j6⟩, h⟩ := h
  obtain ⟨p2, q2, r2, ⟨d1, m1, n1, o1, d2, m2, n2, o2, d3, m3, n3, o3, d4, m4, n4, o4, o5⟩, h⟩ := h
  obtain ⟨e1, s1, t1, ⟨c1, v1'⟩, e2, s2, t2, ⟨c2, v2'⟩, e3, s3, t3, ⟨c3, v3'⟩, e4, s4, t4, ⟨c4, v4'⟩, e5, s5, t5, ⟨c5, v5'⟩, e6, s6, t6, c6, e7, s7, t7, c7, e8, s8, t8, c8, e9, s9, t9, c9, e10, s10, t10, c10, e11, s11, t11, c11, e12, s12, t12, c12, c13⟩ := h
  obtain ⟨pa, pc, pe, pB, pL, pC⟩ := bytes_of g1
  obtain ⟨ha, hc, he, hB, hL, hC⟩ := bytes_of g2
  obtain ⟨ra, rc, re, rB, rL, rC⟩ := bytes_of j5
  obtain ⟨oa, oc, oe, oB, oL, oC⟩ := bytes_of o1
  obtain ⟨la, lc, le, lB, lL, lC⟩ := bytes_of o3
  obtain ⟨aa, ac, ae, aL, _⟩ := sl_of c9
  obtain ⟨wa, wc, we, wL, wR⟩ := sl_of c10
  obtain ⟨fa, fc, fe, fL, fR⟩ := sl_of c11
  obtain ⟨ka, kc, ke, kL, _⟩ := sl_of c12
  obtain ⟨lw, lwn, lwr⟩ := waits_of wR
  obtain ⟨lf, lfn, lfr, lfl⟩ := files_of fR
  refine ⟨⟨⟨pa, y1.length, pc⟩, ⟨ha, y2.length, hc⟩, y3, y4, y5, y6, z1, z2, z3, z4, ⟨ra, z5.length, rc⟩, ⟨oa, v1.length, oc⟩, v2, ⟨la, v3.length, lc⟩, v4, x1, x2, x3, x4, x5, x6, x7, x8, ⟨aa, x9.length, ac⟩, ⟨wa, lw.length, wc⟩, ⟨fa, lf.length, fc⟩, ⟨ka, x12.length, kc⟩⟩, ⟨y1, y2, z5, v1, v3, lw, lf⟩, ?_,
    ⟨rfl, rfl, rfl, rfl, rfl, pL, hL, rL, oL, lL, aL, kL, pC, hC, rC, oC, pB, hB, rB, oB, lB, rfl, Nat.le_trans (Nat.le_of_eq lwn) wL, lwr, rfl, Nat.le_trans (Nat.le_of_eq lfn) fL, lfr, lfl, wf64 w4, wf64 w6, wf64 u3, wf64 u4, wf64 v2', wf64 v1', wf64 v3', wf64 v4', wf64 v5'⟩⟩
  have g3' : a3 = [.bool y3] := g3
  have g5' : a5 = [.bool y5] := g5
  have g7' : k6 = [] := g7
  have j6' : l5 = [] := j6
  have o2' : d2 = [.bool v2] := o2
  have o4' : d4 = [.bool v4] := o4
  have o5' : m4 = [] := o5
  have c6' : e6 = [.bool x6] := c6
  have c7' : e7 = [.bool x7] := c7
  have c8' : e8 = [.bool x8] := c8
  have c13' : s12 = [] := c13
  rw [r0, f1, pe, f2, he, f3, g3', f4, g4, f5, g5', f6, g6, g7', r1, i1, j1, i2, j2, i3, j3, i4, j4, i5, re, j6', r2, n1, oe, n2, o2', n3, le, n4, o4', o5', t1, c1, t2, c2, t3, c3, t4, c4, t5, c5, t6, c6', t7, c7', t8, c8', t9, ae, t10, we, t11, fe, t12, ke, c13', lwn, lfn]
  rfl
end Go.Proofs.YtcjcflmnghhbaaaGreat
