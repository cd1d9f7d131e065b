/-
  A state's cells; whether a condition holds of two states; of chapter 27.
  Conditions: as each theorem states them.
-/
import Derived.Test.YtcjcflmnghhbaaaGreatCondUv
import Derived.Test.YtcjcflmnghhbaaaGreatMapSe
import Derived.Deep.AppendLies
namespace Go.Proofs.YtcjcflmnghhbaaaGreat
open Go.RowKit
set_option linter.unusedVariables false
set_option linter.unusedSimpArgs false
open CM (Sv)
structure Sl3 where
  a : Option Addr
  n : Nat
  c : Nat
abbrev Sl3.v (s : Sl3) : Value := .slice s.a s.n s.c
/-- a state's cells -/
structure StC where
  pat : Sl3
  hold : Sl3
  nl : Bool
  line : Int
  subst : Bool
  last : Int
  next : Int
  opn : Int
  cur : Int
  missing : Int
  rest : Sl3
  out : Sl3
  short : Bool
  place : Sl3
  pshort : Bool
  phase : Int
  pc : Int
  exit : Int
  stop : Int
  err : Int
  silent : Bool
  quit : Bool
  again : Bool
  active : Sl3
  waits : Sl3
  files : Sl3
  lacks : Sl3
def StC.cells (s : StC) : List Value := [s.pat.v, s.hold.v, .bool s.nl, .int .i64 s.line, .bool s.subst, .int .i64 s.last, .int .i64 s.next, .int .i64 s.opn, .int .i64 s.cur, .int .i64 s.missing, s.rest.v, s.out.v, .bool s.short, s.place.v, .bool s.pshort, .int .i64 s.phase, .int .i64 s.pc, .int .i64 s.exit, .int .i64 s.stop, .int .i64 s.err,
  .bool s.silent, .bool s.quit, .bool s.again, s.active.v, s.waits.v, s.files.v, s.lacks.v]
/-- a slice holds a text -/
def TxOk (w : World) (s : Sl3) (t : List UInt8) : Prop := s.n = t.length ∧ t.length ≤ s.c ∧ BytesAt w s.a t ∧ t.length ≤ 100000
/-- what a condition sees of a state's cells -/
structure StSv (w : World) (s : StC) (v : Sv) : Prop where
  line : v.line = s.line
  pc : v.pc = s.pc
  exit : v.exit = s.exit
  waits : v.waits = (s.waits.n : Int)
  pattern : TxOk w s.pat v.pattern
  hold : TxOk w s.hold v.hold
  rest : TxOk w s.rest v.rest
  out : TxOk w s.out v.out
  subst : v.subst = s.subst
  silent : v.silent = s.silent
  quit : v.quit = s.quit
  again : v.again = s.again
  err : v.err = s.err
  phase : v.phase = s.phase
theorem TxOk.below {w w' : World} {s : Sl3} {t : List UInt8} (h : TxOk w s t) (hb : Below w.heap.size w w') : TxOk w' s t := ⟨h.1, h.2.1, h.2.2.1.below hb, h.2.2.2⟩
theorem StSv.below {w w' : World} {s : StC} {v : Sv} (h : StSv w s v) (hb : Below w.heap.size w w') : StSv w' s v :=
  { h with pattern := h.pattern.below hb, hold := h.hold.below hb, rest := h.rest.below hb, out := h.out.below hb }
theorem TxOk.at {w : World} {s : Sl3} {t : List UInt8} {b j : Nat} (h : TxOk w s t) (hc : w.cell? ⟨b, j, none⟩ = some s.v) : TxAt w b j t := by
  obtain ⟨h1, h2, h3, h4⟩ := h
  exact ⟨s.a, s.c, by rw [hc, ← h1], h2, h3, h4⟩
theorem StSv.at {w : World} {s : StC} {v : Sv} {b : Nat} (h : StSv w s v) (hb : Blk w b 35 s.cells) : SvAt w b v := by
  refine ⟨hb.lt, ?_, ?_, ?_, ⟨s.waits.a, s.waits.n, s.waits.c, hb.cell 24, h.waits.symm⟩, h.pattern.at (hb.cell 0), h.hold.at (hb.cell 1), h.rest.at (hb.cell 10), h.out.at (hb.cell 11), ?_, ?_, ?_, ?_, ?_, ?_⟩
  · rw [h.line]; exact hb.cell 3
  · rw [h.pc]; exact hb.cell 16
  · rw [h.exit]; exact hb.cell 17
  · rw [h.subst]; exact hb.cell 4
  · rw [h.silent]; exact hb.cell 20
  · rw [h.quit]; exact hb.cell 21
  · rw [h.again]; exact hb.cell 22
  · rw [h.err]; exact hb.cell 19
  · rw [h.phase]; exact hb.cell 15
theorem CondIs.below {W W' : World} {c : Nat} {s : List UInt8} {phi : CM.M} (h : CondIs W c s phi) (hb : Below W.heap.size W W') : CondIs W' c s phi := by
  obtain ⟨g, v, h1, h2, h3⟩ := h
  exact ⟨g, v, h1.below hb, h2.later (Only.of_below hb), h3⟩
set_option maxHeartbeats 4000000 in
set_option maxRecDepth 100000 in
theorem holds_nil (s1 s2 : StC) (W : World) : Calls Tryz.prog 37 #[.pointer none, .agg s1.cells.toArray, .agg s2.cells.toArray] W fun e w' => e = .returned (.bool false) ∧ Below W.heap.size W w' := by
  unfold StC.cells
  go_enter Tryz.func37, Tryz.ntmps37
  go_wp2_with fail
  go_ret
  exact ⟨rfl, bl_alloc (bl_alloc (Below.refl _ _) _) _⟩
set_option maxHeartbeats 4000000 in
set_option maxRecDepth 100000 in
theorem holds_any {W : World} {c : Nat} {t : List UInt8} {phi : CM.M} {s1 s2 : StC} {v1 v2 : Sv} (h : CondIs W c t phi) (h1 : StSv W s1 v1) (h2 : StSv W s2 v2) (hm : MxAt W) :
    Calls Tryz.prog 37 #[.pointer (some ⟨c, 0, none⟩), .agg s1.cells.toArray, .agg s2.cells.toArray] W fun e w' => e = .returned (.bool (phi v1 v2)) ∧ Below W.heap.size W w' := by
  obtain ⟨W1, hW1⟩ : ∃ W1, W.alloc (.cells s1.cells.toArray 35) = W1 := ⟨_, rfl⟩
  obtain ⟨W2, hW2⟩ : ∃ W2, W1.alloc (.cells s2.cells.toArray 35) = W2 := ⟨_, rfl⟩
  have hb : Below W.heap.size W W2 := by rw [← hW2, ← hW1]; exact bl_alloc (bl_alloc (Below.refl _ _) _) _
  have hB1 : Blk W2 W.heap.size 35 s1.cells := by rw [← hW2, ← hW1]; exact (Blk.new W _ _).alloc _
  have hB2 : Blk W2 (W.heap.size + 1) 35 s2.cells := by
    rw [show W.heap.size + 1 = W1.heap.size by rw [← hW1]; simp, ← hW2]; exact Blk.new W1 _ _
  obtain ⟨g, v, hc, hH, hg⟩ := h.below hb
  obtain ⟨f, caps, rfl, hE, hh⟩ := hH
  have hcall := Lib.hid (hh W2 (Only.refl _ _) _ _ _ _ ((h1.below hb).at hB1) ((h2.below hb).at hB2) (hm.below hb))
  have k0 : W2.cell? ⟨c, 0, none⟩ = some (.func (.func f) #[] caps) := hc.cell 0
  have hcl := hc.lt
  have hW : (W.alloc (.cells s1.cells.toArray 35)).alloc (.cells s2.cells.toArray 35) = W2 := by rw [hW1, hW2]
  unfold StC.cells at hW
  replace hW := Lib.hid hW
  replace hb := Lib.hid hb
  unfold Ent at hE
  clear h h1 h2 hm hB1 hB2 hc hh hW1 hW2
  unfold StC.cells
  go_enter Tryz.func37, Tryz.ntmps37
  go_upto_region 1 with fail
  rw [hW.out]
  go_wp2_with ((with_reducible refine hcall.out.mono ?_); rintro e w3 ⟨rfl, q, rfl⟩)
  go_ret
  exact ⟨rfl, bl_drewN hb.out _⟩
end Go.Proofs.YtcjcflmnghhbaaaGreat
/-
  append of any row, nil or empty too, to a row that the call owns: the law, for a plain list; of chapter 27.
  Conditions: as each theorem states them.
-/
namespace Go.Proofs.YtcjcflmnghhbaaaGreat
open Go.RowKit
set_option linter.unusedVariables false
set_option linter.unusedSimpArgs false
/-- a slice of m elements that is read: its cells -/
def SrcAt (w : World) (v : Value) (m : Nat) (news : List Value) : Prop := ∃ a c, v = .slice a m c ∧ (a = none → m = 0) ∧ (∀ ad, a = some ad → ∀ j u, news[j]? = some u → w.cell? (ad.add j) = some u)
theorem SrcAt.below {w w' : World} {v : Value} {m : Nat} {news : List Value} (h : SrcAt w v m news) (hb : Below w.heap.size w w') : SrcAt w' v m news := by
  obtain ⟨a, c, rfl, h0, hc⟩ := h
  refine ⟨a, c, rfl, h0, fun ad e j u hj => ?_⟩
  have h1 := hc ad e j u hj
  have h2 : (ad.add j).block < w.heap.size := by
    rcases Nat.lt_or_ge (ad.add j).block w.heap.size with hl | hl
    · exact hl
    · unfold World.cell? at h1
      simp [Array.getElem?_eq_none hl] at h1
  exact (hb.cell h2).trans h1
theorem byteCells_get {xs : List UInt8} {j : Nat} {u : Value} (h : (Lib.byteCells xs)[j]? = some u) : ∃ hj : j < xs.length, u = .int .u8 (xs[j].toNat : Int) := by
  obtain ⟨hj, e⟩ := List.getElem?_eq_some_iff.1 h
  have hj' : j < xs.length := by simpa [Lib.byteCells] using hj
  exact ⟨hj', by rw [← e]; simp [Lib.byteCells]⟩
theorem src_bytes {w : World} {a : Option Addr} {c : Nat} {xs : List UInt8} (h : BytesAt w a xs) : SrcAt w (.slice a xs.length c) xs.length (Lib.byteCells xs) := by
  refine ⟨a, c, rfl, fun e => ?_, fun ad e j u hj => ?_⟩
  · rcases Nat.eq_zero_or_pos xs.length with h0 | h0
    · exact h0
    · obtain ⟨p, o, e2, _⟩ := h h0
      rw [e] at e2; cases e2
  · obtain ⟨hj', rfl⟩ := byteCells_get hj
    obtain ⟨p, o, e2, hp, hr⟩ := h (by omega)
    rw [e] at e2; cases e2
    have e1 : (⟨p, o, none⟩ : Addr).add j = ⟨p, o + j, none⟩ := by unfold Addr.add; by_cases h0 : j = 0 <;> simp [h0]
    rw [e1]
    exact hr j hj'
section
variable {P : Program} (w : World)
theorem run_append_none (base : Nat) (t ty e : TypeId) (i : TypeInfo) (size : Nat) (ht : P.underlying t = some (.slice e)) (hi : P.info? e = some i)
    (v : Value) (n : Nat) (xs : List Value) (c : Nat) (hown : w.ownsRow base e size v n xs) :
    (Builtin.append_ #[t, t] ty #[v, .slice none 0 c]).run P w = .ok v w := by
  rcases hown.2 with ⟨rfl, rfl⟩ | ⟨g, cap, cur, rfl, _, _, hnc, _⟩
  · simp [Builtin.append_, run_underlying ht, sizeOf, typeInfo, hi, Builtin.lenOf, Builtin.firstCells]
  · simp [Builtin.append_, run_underlying ht, sizeOf, typeInfo, hi, Builtin.lenOf, Builtin.firstCells, hnc, storeCells]
theorem run_append_src (base : Nat) (t ty e : TypeId) (i : TypeInfo) (z : Value) (size bytes : Nat) (ht : P.underlying t = some (.slice e)) (hi : P.info? e = some i) (hz : i.zero = some z)
    (hsize : i.size = size) (hby : i.bytes = bytes) (hzs : z.cells.size = size) (hsz : 0 < size)
    (v : Value) (n : Nat) (xs : List Value) (hown : w.ownsRow base e size v n xs)
    (sv : Value) (m : Nat) (news : List Value) (hsv : SrcAt w sv m news) (hl : news.length = m * size) (h1 : ∀ u ∈ news, u.oneCell' = true)
    (h63 : n + m ≤ maxLen) (hbytes : (n + m) * bytes ≤ 140737488355328) (hbase : base ≤ w.heap.size) :
    ∃ v' w', (Builtin.append_ #[t, t] ty #[v, sv]).run P w = .ok v' w' ∧ w'.ownsRow base e size v' (n + m) (xs ++ news) ∧ w.grownBy w' v.ownBlock := by
  obtain ⟨a, c, rfl, h0, hc⟩ := hsv
  cases a with
  | none =>
    obtain rfl := h0 rfl
    refine ⟨v, w, run_append_none w base t ty e i size ht hi v n xs c hown, ?_, ⟨rfl, rfl, rfl, Nat.le_refl _, fun k _ _ => rfl⟩⟩
    have : news = [] := List.eq_nil_of_length_eq_zero (by rw [hl, Nat.zero_mul])
    subst this
    rw [List.append_nil, Nat.add_zero]
    exact hown
  | some ad =>
    obtain ⟨v', w', hr, h2, h3, _, _⟩ := run_append_own_at (P := P) w base t ty e i z size bytes ht hi hz hsize hby hzs hsz v n xs hown ad m c news hl (hc ad rfl) h1 h63 hbytes hbase
    exact ⟨v', w', hr, h2, h3⟩
theorem wpList_append_src {ops : Array Oper} {rest : List Oper} {o : Oper} {a : Act} {Q : Exit → Act → World → Prop} (hgd : o.guard = none) (s x : Operand) (t : TypeId)
    (ho : o.op = .call { callee := .builtin .append, args := #[s, x], argTypes := #[t, t] })
    (base : Nat) (e : TypeId) (i : TypeInfo) (z : Value) (size bytes : Nat) (ht : P.underlying t = some (.slice e)) (hi : P.info? e = some i) (hz : i.zero = some z)
    (hsize : i.size = size) (hby : i.bytes = bytes) (hzs : z.cells.size = size) (hsz : 0 < size)
    (v : Value) (n : Nat) (xs : List Value) (hs : a.eval s = v) (hown : w.ownsRow base e size v n xs)
    (sv : Value) (m : Nat) (news : List Value) (hx : a.eval x = sv) (hsv : SrcAt w sv m news) (hl : news.length = m * size) (h1 : ∀ u ∈ news, u.oneCell' = true)
    (h63 : n + m ≤ maxLen) (hbytes : (n + m) * bytes ≤ 140737488355328) (hbase : base ≤ w.heap.size)
    (h : ∀ v' w', w'.ownsRow base e size v' (n + m) (xs ++ news) → w.grownBy w' v.ownBlock → wpList P ops Q rest (a.put o.dst v') w') :
    wpList P ops Q (o :: rest) a w := by
  refine wpList_plain hgd fun K hK => ?_
  obtain ⟨v', w', hr, h2, h3⟩ := run_append_src (P := P) w base t o.type e i z size bytes ht hi hz hsize hby hzs hsz v n xs hown sv m news hsv hl h1 h63 hbytes hbase
  unfold Oper.wp execOp
  simp only [ho, resolve, invoke, builtin, Sem.run_bind, Sem.run_pure, Result.andThen_ok, List.map_toArray, List.map_cons, List.map_nil, hs, hx, hr]
  exact hK _ _ (h v' w' h2 h3)
end
theorem bytes_one (xs : List UInt8) : ∀ u ∈ Lib.byteCells xs, u.oneCell' = true := by
  intro u hu
  obtain ⟨j, hj⟩ := List.mem_iff_getElem?.1 hu
  obtain ⟨_, rfl⟩ := byteCells_get hj
  rfl
theorem byteCells_len (xs : List UInt8) : (Lib.byteCells xs).length = xs.length * 1 := by rw [Nat.mul_one]; simp [Lib.byteCells]
end Go.Proofs.YtcjcflmnghhbaaaGreat
