/-
  append of any row, nil or empty too, to a row that the call owns: the law, for a plain list; of chapter 27.
  Conditions: as each theorem states them.
-/
import Derived.Test.YtfidmpkblmebeaaMem
import Derived.Deep.AppendLies
namespace Go.Proofs.Ytfidmpkblmebeaa
open Go.RowKit
set_option linter.unusedVariables false
set_option linter.unusedSimpArgs false
/-- a slice of m elements that is read: its cells -/
def SrcAt (w : World) (v : Value) (m : Nat) (news : List Value) : Prop := ∃ a c, v = .slice a m c ∧ (a = none → m = 0) ∧ (∀ ad, a = some ad → ∀ j u, news[j]? = some u → w.cell? (ad.add j) = some u)
theorem SrcAt.below {w w' : World} {v : Value} {m : Nat} {news : List Value} (h : SrcAt w v m news) (hb : Below w.heap.size w w') : SrcAt w' v m news := by
  obtain ⟨a, c, rfl, h0, hc⟩ := h
  refine ⟨a, c, rfl, h0, fun ad e j u hj => ?_⟩
  have h1 := hc ad e j u hj
  have h2 : (ad.add j).block < w.heap.size := by
    rcases Nat.lt_or_ge (ad.add j).block w.heap.size with hl | hl
    · exact hl
    · unfold World.cell? at h1
      simp [Array.getElem?_eq_none hl] at h1
  exact (hb.cell h2).trans h1
theorem byteCells_get {xs : List UInt8} {j : Nat} {u : Value} (h : (Lib.byteCells xs)[j]? = some u) : ∃ hj : j < xs.length, u = .int .u8 (xs[j].toNat : Int) := by
  obtain ⟨hj, e⟩ := List.getElem?_eq_some_iff.1 h
  have hj' : j < xs.length := by simpa [Lib.byteCells] using hj
  exact ⟨hj', by rw [← e]; simp [Lib.byteCells]⟩
theorem src_bytes {w : World} {a : Option Addr} {c : Nat} {xs : List UInt8} (h : BytesAt w a xs) : SrcAt w (.slice a xs.length c) xs.length (Lib.byteCells xs) := by
  refine ⟨a, c, rfl, fun e => ?_, fun ad e j u hj => ?_⟩
  · rcases Nat.eq_zero_or_pos xs.length with h0 | h0
    · exact h0
    · obtain ⟨p, o, e2, _⟩ := h h0
      rw [e] at e2; cases e2
  · obtain ⟨hj', rfl⟩ := byteCells_get hj
    obtain ⟨p, o, e2, hp, hr⟩ := h (by omega)
    rw [e] at e2; cases e2
    have e1 : (⟨p, o, none⟩ : Addr).add j = ⟨p, o + j, none⟩ := by unfold Addr.add; by_cases h0 : j = 0 <;> simp [h0]
    rw [e1]
    exact hr j hj'
section
variable {P : Program} (w : World)
theorem run_append_none (base : Nat) (t ty e : TypeId) (i : TypeInfo) (size : Nat) (ht : P.underlying t = some (.slice e)) (hi : P.info? e = some i)
    (v : Value) (n : Nat) (xs : List Value) (c : Nat) (hown : w.ownsRow base e size v n xs) :
    (Builtin.append_ #[t, t] ty #[v, .slice none 0 c]).run P w = .ok v w := by
  rcases hown.2 with ⟨rfl, rfl⟩ | ⟨g, cap, cur, rfl, _, _, hnc, _⟩
  · simp [Builtin.append_, run_underlying ht, sizeOf, typeInfo, hi, Builtin.lenOf, Builtin.firstCells]
  · simp [Builtin.append_, run_underlying ht, sizeOf, typeInfo, hi, Builtin.lenOf, Builtin.firstCells, hnc, storeCells]
theorem run_append_src (base : Nat) (t ty e : TypeId) (i : TypeInfo) (z : Value) (size bytes : Nat) (ht : P.underlying t = some (.slice e)) (hi : P.info? e = some i) (hz : i.zero = some z)
    (hsize : i.size = size) (hby : i.bytes = bytes) (hzs : z.cells.size = size) (hsz : 0 < size)
    (v : Value) (n : Nat) (xs : List Value) (hown : w.ownsRow base e size v n xs)
    (sv : Value) (m : Nat) (news : List Value) (hsv : SrcAt w sv m news) (hl : news.length = m * size) (h1 : ∀ u ∈ news, u.oneCell' = true)
    (h63 : n + m ≤ maxLen) (hbytes : (n + m) * bytes ≤ 140737488355328) (hbase : base ≤ w.heap.size) :
    ∃ v' w', (Builtin.append_ #[t, t] ty #[v, sv]).run P w = .ok v' w' ∧ w'.ownsRow base e size v' (n + m) (xs ++ news) ∧ w.grownBy w' v.ownBlock := by
  obtain ⟨a, c, rfl, h0, hc⟩ := hsv
  cases a with
  | none =>
    obtain rfl := h0 rfl
    refine ⟨v, w, run_append_none w base t ty e i size ht hi v n xs c hown, ?_, ⟨rfl, rfl, rfl, Nat.le_refl _, fun k _ _ => rfl⟩⟩
    have : news = [] := List.eq_nil_of_length_eq_zero (by rw [hl, Nat.zero_mul])
    subst this
    rw [List.append_nil, Nat.add_zero]
    exact hown
  | some ad =>
    obtain ⟨v', w', hr, h2, h3, _, _⟩ := run_append_own_at (P := P) w base t ty e i z size bytes ht hi hz hsize hby hzs hsz v n xs hown ad m c news hl (hc ad rfl) h1 h63 hbytes hbase
    exact ⟨v', w', hr, h2, h3⟩
theorem wpList_append_src {ops : Array Oper} {rest : List Oper} {o : Oper} {a : Act} {Q : Exit → Act → World → Prop} (hgd : o.guard = none) (s x : Operand) (t : TypeId)
    (ho : o.op = .call { callee := .builtin .append, args := #[s, x], argTypes := #[t, t] })
    (base : Nat) (e : TypeId) (i : TypeInfo) (z : Value) (size bytes : Nat) (ht : P.underlying t = some (.slice e)) (hi : P.info? e = some i) (hz : i.zero = some z)
    (hsize : i.size = size) (hby : i.bytes = bytes) (hzs : z.cells.size = size) (hsz : 0 < size)
    (v : Value) (n : Nat) (xs : List Value) (hs : a.eval s = v) (hown : w.ownsRow base e size v n xs)
    (sv : Value) (m : Nat) (news : List Value) (hx : a.eval x = sv) (hsv : SrcAt w sv m news) (hl : news.length = m * size) (h1 : ∀ u ∈ news, u.oneCell' = true)
    (h63 : n + m ≤ maxLen) (hbytes : (n + m) * bytes ≤ 140737488355328) (hbase : base ≤ w.heap.size)
    (h : ∀ v' w', w'.ownsRow base e size v' (n + m) (xs ++ news) → w.grownBy w' v.ownBlock → wpList P ops Q rest (a.put o.dst v') w') :
    wpList P ops Q (o :: rest) a w := by
  refine wpList_plain hgd fun K hK => ?_
  obtain ⟨v', w', hr, h2, h3⟩ := run_append_src (P := P) w base t o.type e i z size bytes ht hi hz hsize hby hzs hsz v n xs hown sv m news hsv hl h1 h63 hbytes hbase
  unfold Oper.wp execOp
  simp only [ho, resolve, invoke, builtin, Sem.run_bind, Sem.run_pure, Result.andThen_ok, List.map_toArray, List.map_cons, List.map_nil, hs, hx, hr]
  exact hK _ _ (h v' w' h2 h3)
end
theorem bytes_one (xs : List UInt8) : ∀ u ∈ Lib.byteCells xs, u.oneCell' = true := by
  intro u hu
  obtain ⟨j, hj⟩ := List.mem_iff_getElem?.1 hu
  obtain ⟨_, rfl⟩ := byteCells_get hj
  rfl
theorem byteCells_len (xs : List UInt8) : (Lib.byteCells xs).length = xs.length * 1 := by rw [Nat.mul_one]; simp [Lib.byteCells]
end Go.Proofs.Ytfidmpkblmebeaa
