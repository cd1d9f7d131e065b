/-
  A state in memory, what is shown of it; of chapter 30.
  Conditions: as each theorem states them.
-/
import Derived.Test.YtjfpepinmbbnbaaDoorTable
import Derived.Laws.AppendOwnNone
namespace Go.Proofs.YtjfpepinmbbnbaaDoor
open Go.RowKit
set_option linter.unusedVariables false
set_option linter.unusedSimpArgs false
/-- texts in a row of memory -/
def StrsAt (w : World) (v : Value) (ts : List ByteArray) : Prop := ∃ a c, v = .slice a ts.length c ∧ (a = none → c = 0) ∧ (0 < ts.length → ∃ b o, a = some ⟨b, o, none⟩ ∧ b < w.heap.size ∧ ∀ i (h : i < ts.length), w.cell? ⟨b, o + i, none⟩ = some (.string ts[i]))
theorem StrsAt.below {w w' : World} {v : Value} {ts : List ByteArray} (h : StrsAt w v ts) (hb : Below w.heap.size w w') : StrsAt w' v ts := by
  obtain ⟨a, c, e, h0, h⟩ := h
  refine ⟨a, c, e, h0, fun h0 => ?_⟩
  obtain ⟨b, o, ea, hl, hr⟩ := h h0
  exact ⟨b, o, ea, Nat.lt_of_lt_of_le hl hb.size, fun i hi => (hb.cell (p := ⟨b, o + i, none⟩) hl).trans (hr i hi)⟩
theorem StrsAt.nil (w : World) : StrsAt w (.slice none 0 0) [] := ⟨none, 0, rfl, fun _ => rfl, fun h => by simp at h⟩
theorem StrsAt.one {t : ByteArray} {w : World} {g : Nat} (hc : w.cell? ⟨g, 0, none⟩ = some (.string t)) (hg : g < w.heap.size) : StrsAt w (.slice (some ⟨g, 0, none⟩) 1 1) [t] :=
  ⟨_, 1, rfl, (fun h => by cases h), fun _ => ⟨g, 0, rfl, hg, fun i hi => by
    have hi0 : i = 0 := by simp only [List.length_cons, List.length_nil] at hi; omega
    subst hi0
    exact hc⟩⟩
theorem StrsAt.own {w : World} {base e : Nat} {v : Value} {ts : List ByteArray} (h : w.ownsRow base e 1 v ts.length (ts.map Value.string)) : StrsAt w v ts := by
  have hv := h.2
  rcases own_cells h with ⟨c, rfl, h0⟩ | ⟨g, cap, rfl, hcap, hg, hc⟩
  · rcases hv with ⟨hv, _⟩ | ⟨g, cap, cur, hv, _⟩
    · cases hv
      exact ⟨none, 0, by rw [h0], fun _ => rfl, fun h => by omega⟩
    · cases hv
  · refine ⟨_, cap, rfl, (fun h => by cases h), fun h0 => ⟨g, 0, rfl, hg, fun i hi => ?_⟩⟩
    have := hc i (.string ts[i]) (by simp [hi])
    simpa using this
theorem grown_refl (w : World) (row : Option Nat) : w.grownBy w row := ⟨rfl, rfl, rfl, Nat.le_refl _, fun _ _ _ => rfl⟩
/-- append(l, more...) of texts -/
theorem wpList_append_strs {P : Program} {w : World} {ops : Array Oper} {rest : List Oper} {o : Oper} {a : Act} {Q : Exit → Act → World → Prop} (hgd : o.guard = none) (s x : Operand) (t : TypeId)
    (ho : o.op = .call { callee := .builtin .append, args := #[s, x], argTypes := #[t, t] }) (base : Nat) (e : TypeId) (i : TypeInfo) (z : Value) (ht : P.underlying t = some (.slice e)) (hi : P.info? e = some i) (hz : i.zero = some z)
    (hsize : i.size = 1) (hby : i.bytes = 16) (hzs : z.cells.size = 1) (v : Value) (n : Nat) (xs : List Value) (hs : a.eval s = v) (hown : w.ownsRow base e 1 v n xs) (X : Value) (ts : List ByteArray) (hx : a.eval x = X) (hX : StrsAt w X ts)
    (hb : n + ts.length ≤ 1000000) (hbase : base ≤ w.heap.size)
    (h : ∀ v' w', w'.ownsRow base e 1 v' (n + ts.length) (xs ++ ts.map Value.string) → w.grownBy w' v.ownBlock → wpList P ops Q rest (a.put o.dst v') w') : wpList P ops Q (o :: rest) a w := by
  obtain ⟨ad, c, rfl, hn, hr⟩ := hX
  cases ad with
  | none =>
    have h0 : ts = [] := by
      cases ts with
      | nil => rfl
      | cons y l => obtain ⟨_, _, e, _⟩ := hr (by simp); cases e
    subst h0
    obtain rfl := hn rfl
    exact wpList_append_own_none hgd s x t ho base e i 1 ht hi v n xs hs hown hx (h v w (by simpa using hown) (grown_refl _ _))
  | some ad =>
    refine wpList_append_own _ hgd s x t ho base e i z 1 16 ht hi hz hsize hby hzs Nat.zero_lt_one v n xs hs hown ad ts.length c (ts.map Value.string) hx (by simp) (fun j u hj => ?_) (fun u hu => by obtain ⟨y, _, rfl⟩ := List.mem_map.1 hu; rfl) (by unfold maxLen; omega) (by omega) hbase (fun v' w' h1 h2 _ => h v' w' h1 h2)
    rw [List.getElem?_map] at hj
    obtain ⟨y, hy, rfl⟩ := Option.map_eq_some_iff.1 hj
    obtain ⟨hj', rfl⟩ := List.getElem?_eq_some_iff.1 hy
    obtain ⟨b, o, e, hl, hc⟩ := hr (by omega)
    obtain rfl := Option.some.inj e
    have := hc j hj'
    unfold Addr.add
    by_cases h0 : j = 0
    · subst h0; simp
    · simp [h0]
/-- a file, and its bytes -/
structure Fb where
  fl : Fl
  bytes : List UInt8
/-- what a state has -/
structure StB where
  pat : List UInt8
  hold : List UInt8
  rest : List UInt8
  out : List UInt8
  place : List UInt8
  waits : List Wt
  files : List Fb
structure StAt (w : World) (s : StC) (b : StB) : Prop where
  ok : s.Ok
  line : -9223372036854775808 ≤ s.line ∧ s.line ≤ 9223372036854775807
  pc : -9223372036854775808 ≤ s.pc ∧ s.pc ≤ 9223372036854775807
  phase : -9223372036854775808 ≤ s.phase ∧ s.phase ≤ 9223372036854775807
  exit : -9223372036854775808 ≤ s.exit ∧ s.exit ≤ 9223372036854775807
  stop : -9223372036854775808 ≤ s.stop ∧ s.stop ≤ 9223372036854775807
  err : -9223372036854775808 ≤ s.err ∧ s.err ≤ 9223372036854775807
  patN : s.pat.n = b.pat.length
  holdN : s.hold.n = b.hold.length
  restN : s.rest.n = b.rest.length
  outN : s.out.n = b.out.length
  placeN : s.place.n = b.place.length
  patL : b.pat.length ≤ 3000
  holdL : b.hold.length ≤ 3000
  restL : b.rest.length ≤ 3000
  outL : b.out.length ≤ 3000
  placeL : b.place.length ≤ 3000
  patAt : BytesAt w s.pat.a b.pat
  holdAt : BytesAt w s.hold.a b.hold
  restAt : BytesAt w s.rest.a b.rest
  outAt : BytesAt w s.out.a b.out
  placeAt : BytesAt w s.place.a b.place
  waitsN : s.waits.n = b.waits.length
  waitsL : b.waits.length ≤ 3000
  waitsAt : WaitsAt w s.waits.a b.waits
  filesN : s.files.n = b.files.length
  filesL : b.files.length ≤ 3000
  filesAt : FilesAt w s.files.a (b.files.map (·.fl))
  bytesAt : ∀ f ∈ b.files, f.fl.n = f.bytes.length ∧ f.bytes.length ≤ 3000 ∧ BytesAt w f.fl.a f.bytes
theorem WaitsAt.below {w w' : World} {a : Option Addr} {l : List Wt} (h : WaitsAt w a l) (hb : Below w.heap.size w w') : WaitsAt w' a l := fun h0 => by
  obtain ⟨b, o, e, hl, hr⟩ := h h0
  refine ⟨b, o, e, Nat.lt_of_lt_of_le hl hb.size, fun i hi => ?_⟩
  obtain ⟨h1, h2, h3, h4⟩ := hr i hi
  exact ⟨(hb.cell (p := ⟨b, o + i * 2, none⟩) hl).trans h1, (hb.cell (p := ⟨b, o + i * 2 + 1, none⟩) hl).trans h2, h3.below hb, h4⟩
theorem FilesAt.below {w w' : World} {a : Option Addr} {l : List Fl} (h : FilesAt w a l) (hb : Below w.heap.size w w') : FilesAt w' a l := fun h0 => by
  obtain ⟨b, o, e, hl, hr⟩ := h h0
  refine ⟨b, o, e, Nat.lt_of_lt_of_le hl hb.size, fun i hi => ?_⟩
  obtain ⟨h1, h2, h3⟩ := hr i hi
  exact ⟨(hb.cell (p := ⟨b, o + i * 2, none⟩) hl).trans h1, (hb.cell (p := ⟨b, o + i * 2 + 1, none⟩) hl).trans h2, h3⟩
theorem StAt.below {w w' : World} {s : StC} {b : StB} (h : StAt w s b) (hb : Below w.heap.size w w') : StAt w' s b :=
  { h with
    patAt := h.patAt.below hb, holdAt := h.holdAt.below hb, restAt := h.restAt.below hb, outAt := h.outAt.below hb, placeAt := h.placeAt.below hb,
    waitsAt := h.waitsAt.below hb, filesAt := h.filesAt.below hb, bytesAt := fun f hf => let ⟨h1, h2, h3⟩ := h.bytesAt f hf; ⟨h1, h2, h3.below hb⟩ }
def qS (l : List UInt8) : ByteArray := ⟨(quoteS l).toArray⟩
/-- what is shown of a state -/
def showS (s : StC) (b : StB) (what : ByteArray) : Option (List ByteArray) :=
  if what == ⟨#[112, 97, 116, 116, 101, 114, 110]⟩ then some [qS b.pat]
  else if what == ⟨#[104, 111, 108, 100]⟩ then some [qS b.hold]
  else if what == ⟨#[114, 101, 115, 116]⟩ then some [qS b.rest]
  else if what == ⟨#[111, 117, 116]⟩ then some [qS b.out]
  else if what == ⟨#[112, 108, 97, 99, 101]⟩ then some [qS b.place]
  else if what == ⟨#[114, 101, 103, 115]⟩ then some [regsS s]
  else if what == ⟨#[119, 97, 105, 116, 115]⟩ then some (b.waits.map waitS)
  else if what == ⟨#[102, 105, 108, 101, 115]⟩ then some ((b.files.map (·.fl)).map fileS)
  else none
/-- the answer of a Show: rows, or none -/
def ShowIs (R : Option (List ByteArray)) (w : World) (e : Ending) (w' : World) : Prop := ∃ v, e = .returned (.tuple #[v, .bool R.isSome]) ∧ StrsAt w' v (R.getD []) ∧ Below w.heap.size w w'
end Go.Proofs.YtjfpepinmbbnbaaDoor
