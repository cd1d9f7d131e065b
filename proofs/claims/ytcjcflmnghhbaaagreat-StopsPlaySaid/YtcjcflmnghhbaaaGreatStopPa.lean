/-
  Breakpoints in memory; of chapter 28.
  Conditions: as each theorem states them.
-/
import Derived.Test.YtcjcflmnghhbaaaGreatCondJa
import Derived.Deep.MidRow
import Derived.Deep.DeepCutAuto
import Derived.Deep.RegionLaw
import Derived.Deep.CutBlock
namespace Go.Proofs.YtcjcflmnghhbaaaGreat
open Go.RowKit
set_option linter.unusedVariables false
set_option linter.unusedSimpArgs false
/-- a breakpoint; of its condition: its block, the blocks between which it lies, what it means -/
structure Stp where
  id : Int
  kind : Int
  n : Int
  cond : List UInt8
  off : Bool
  c : Option (Nat × Nat × Nat × CM.M)
def Stp.phi (x : Stp) : Option CM.M := x.c.map fun t => t.2.2.2
def Stp.ptr (x : Stp) : Option Addr := x.c.map fun t => ⟨t.1, 0, none⟩
def Stp.cells (x : Stp) : List Value := [.int .i64 x.id, .int .i64 x.kind, .int .i64 x.n, strV x.cond, .bool x.off, .pointer x.ptr]
theorem Stp.cells_len (x : Stp) : x.cells.length = 6 := rfl
theorem Stp.cells_one (x : Stp) : ∀ u ∈ x.cells, u.oneCell' = true := by
  intro u hu
  simp only [Stp.cells, List.mem_cons, List.not_mem_nil, or_false] at hu
  rcases hu with rfl | rfl | rfl | rfl | rfl | rfl <;> rfl
def stpsC (l : List Stp) : List Value := l.flatMap Stp.cells
theorem stpsC_len (l : List Stp) : (stpsC l).length = l.length * 6 := by
  induction l with
  | nil => rfl
  | cons x l ih =>
    unfold stpsC at ih ⊢
    rw [List.flatMap_cons, List.length_append, ih, List.length_cons, Stp.cells_len]; omega
theorem stpsC_app (l m : List Stp) : stpsC (l ++ m) = stpsC l ++ stpsC m := by unfold stpsC; exact List.flatMap_append
theorem stpsC_get : ∀ (l : List Stp) (i j : Nat) (hi : i < l.length), j < 6 → (stpsC l)[i * 6 + j]? = (l[i]).cells[j]?
  | [], i, j, hi, _ => by simp at hi
  | x :: l, 0, j, _, hj => by
    show (x.cells ++ stpsC l)[0 * 6 + j]? = x.cells[j]?
    rw [Nat.zero_mul, Nat.zero_add, List.getElem?_append_left (by rw [Stp.cells_len]; exact hj)]
  | x :: l, i + 1, j, hi, hj => by
    show (x.cells ++ stpsC l)[(i + 1) * 6 + j]? = _
    rw [List.getElem?_append_right (by rw [Stp.cells_len]; omega), Stp.cells_len, show (i + 1) * 6 + j - 6 = i * 6 + j by omega]
    exact stpsC_get l i j (by simpa using hi) hj
theorem cells_new (w : World) (g : Nat) (hg : g = w.heap.size) (e : TypeId) (l : List Value) : ∀ j u, l[j]? = some u → (w.alloc (.cells l.toArray e)).cell? ((⟨g, 0, none⟩ : Addr).add j) = some u := fun j u h => by
  subst hg
  have e1 : (⟨w.heap.size, 0, none⟩ : Addr).add j = ⟨w.heap.size, j, none⟩ := by unfold Addr.add; by_cases hj : j = 0 <;> simp [hj]
  rw [e1]
  exact ((Blk.new w e l).cell j).trans h
theorem src_new (w : World) (t : TypeId) (l : List Value) (n0 : Nat) (h0 : n0 = w.heap.size) : SrcAt (w.alloc (.cells l.toArray t)) (.slice (some ⟨n0, 0, none⟩) 1 1) 1 l := ⟨_, _, rfl, (fun e => by cases e), fun ad e j u hj => by cases e; exact cells_new w n0 h0 t l j u hj⟩
/-- a condition in memory, whatever turns up to lo and from hi on -/
def CondA (W : World) (lo hi cb : Nat) (phi : CM.M) : Prop := ∃ W1 h s, W1.heap.size = hi ∧ Blk W1 cb 99 [h, strV s] ∧ HoldsIs lo phi h W1 ∧ lo < cb ∧ OlyH lo W1 W
theorem CondA.only {K : Nat → Prop} {W W' : World} {lo hi cb : Nat} {phi : CM.M} (h : CondA W lo hi cb phi) (ho : Only K W W') (hK : ∀ k, K k → k ≤ lo ∨ hi ≤ k) : CondA W' lo hi cb phi := by
  obtain ⟨W1, h, s, e, hB, hH, hl, hO⟩ := h
  refine ⟨W1, h, s, e, hB, hH, hl, ⟨ho.os.trans hO.os, ho.tape.trans hO.tape, ho.output.trans hO.output, Nat.le_trans hO.size ho.size, fun k hk hn => ?_⟩⟩
  rw [ho.block k (Nat.lt_of_lt_of_le hk hO.size) (fun hkk => by rcases hK k hkk with h | h; exact hn h; omega)]
  exact hO.block k hk hn
theorem CondA.is {W : World} {lo hi cb : Nat} {phi : CM.M} (h : CondA W lo hi cb phi) : ∃ s, CondIs W cb s phi := by
  obtain ⟨W1, h, s, e, hB, hH, hl, hO⟩ := h
  exact ⟨s, lo, h, hB.only hO (Nat.not_le.2 hl), hH.lift hO, hl⟩
theorem CondA.hi {W : World} {lo hi cb : Nat} {phi : CM.M} (h : CondA W lo hi cb phi) : hi ≤ W.heap.size := by
  obtain ⟨W1, h, s, e, hB, hH, hl, hO⟩ := h
  rw [← e]; exact hO.size
theorem CondN.condA {n : Nat} {W : World} {c : Nat} {s : List UInt8} {phi : CM.M} (h : CondN n W c s phi) : ∃ lo, n ≤ lo ∧ CondA W lo W.heap.size c phi := by
  obtain ⟨g, v, hB, hH, hl, hn⟩ := h
  exact ⟨g, hn, W, v, s, rfl, hB, hH, hl, Only.refl _ W⟩
/-- the conditions of breakpoints lie apart from what turns -/
def CAt (p : Nat) (v : Value) (W : World) (x : Stp) : Prop := ∀ cb lo hi phi, x.c = some (cb, lo, hi, phi) → CondA W lo hi cb phi ∧ p ≤ lo ∧ ∀ r, v.ownBlock = some r → r ≤ lo ∨ hi ≤ r
/-- breakpoints: the blocks p and that of the row are from N on -/
structure StopsR (N : Nat) (W : World) (p : Nat) (v : Value) (l : List Stp) (last : Int) : Prop where
  np : N ≤ p
  blk : Blk W p 71 [v, .int .i64 last]
  row : W.ownsRow N 75 6 v l.length (stpsC l)
  apart : v.ownBlock ≠ some p
  conds : ∀ x ∈ l, CAt p v W x
def StopsAt (N : Nat) (W : World) (p : Nat) (l : List Stp) (last : Int) : Prop := ∃ v, StopsR N W p v l last
theorem CAt.only {K : Nat → Prop} {p : Nat} {v : Value} {W W' : World} {x : Stp} (h : CAt p v W x) (ho : Only K W W') (hK : ∀ k, K k → k = p ∨ v.ownBlock = some k ∨ W.heap.size ≤ k) : CAt p v W' x := fun cb lo hi phi e => by
  obtain ⟨h1, h2, h3⟩ := h cb lo hi phi e
  have := h1.hi
  refine ⟨h1.only ho (fun k hk => ?_), h2, h3⟩
  rcases hK k hk with rfl | h | h
  · exact .inl h2
  · exact h3 k h
  · exact .inr (by omega)
theorem CAt.below {p : Nat} {v : Value} {W W' : World} {x : Stp} (h : CAt p v W x) (hb : Below W.heap.size W W') : CAt p v W' x := h.only (K := fun _ => False) (Only.of_below hb) (fun _ h => h.elim)
theorem CAt.is {p : Nat} {v : Value} {W : World} {x : Stp} (h : CAt p v W x) {cb lo hi : Nat} {phi : CM.M} (e : x.c = some (cb, lo, hi, phi)) : ∃ s, CondIs W cb s phi := (h cb lo hi phi e).1.is
theorem ownsRow_below {w w' : World} {base : Nat} {e : TypeId} {size : Nat} {v : Value} {n : Nat} {xs : List Value} (h : w.ownsRow base e size v n xs) (hb : Below w.heap.size w w') : w'.ownsRow base e size v n xs := by
  refine ⟨h.1, ?_⟩
  rcases h.2 with h | ⟨g, cap, cur, h1, h2, h3, h4, h5, h6, h7⟩
  · exact .inl h
  · exact .inr ⟨g, cap, cur, h1, h2, (hb.block g (Array.getElem?_eq_some_iff.1 h3).1).trans h3, h4, h5, h6, h7⟩
theorem StopsR.below {N : Nat} {W W' : World} {p : Nat} {v : Value} {l : List Stp} {last : Int} (h : StopsR N W p v l last) (hb : Below W.heap.size W W') : StopsR N W' p v l last :=
  ⟨h.np, h.blk.below hb, ownsRow_below h.row hb, h.apart, fun x hx => (h.conds x hx).below hb⟩
theorem StopsAt.below {N : Nat} {W W' : World} {p : Nat} {l : List Stp} {last : Int} (h : StopsAt N W p l last) (hb : Below W.heap.size W W') : StopsAt N W' p l last := by
  obtain ⟨v, h⟩ := h
  exact ⟨v, h.below hb⟩
/-- an element of the row -/
theorem row_elem {W : World} {N : Nat} {v : Value} {l : List Stp} (h : W.ownsRow N 75 6 v l.length (stpsC l)) : l = [] ∧ v = .slice none 0 0 ∨ ∃ g cap, v = .slice (some ⟨g, 0, none⟩) l.length cap ∧ N ≤ g ∧ g < W.heap.size ∧ l.length ≤ cap ∧ cap ≤ maxLen ∧ ∀ i (hi : i < l.length), W.rangeAt g (i * 6) (l[i]).cells ∧ W.there g (i * 6) 6 := by
  rcases h.2 with ⟨h1, h2⟩ | ⟨g, cap, cur, h1, h2, h3, h4, h5, h6, h7⟩
  · exact .inl ⟨List.eq_nil_of_length_eq_zero h2, h1⟩
  · refine .inr ⟨g, cap, h1, h2, (Array.getElem?_eq_some_iff.1 h3).1, h4, h5, fun i hi => ?_⟩
    have hc : ∀ j, j < 6 → W.cell? ⟨g, i * 6 + j, none⟩ = (l[i]).cells[j]? := fun j hj => by
      have hlt : i * 6 + j < l.length * 6 := by omega
      rw [← stpsC_get l i j hi hj, ← h7, List.getElem?_take, if_pos hlt]
      simp only [World.cell?, h3]
      simp
    refine ⟨fun j u hu => ?_, fun j hj => ?_⟩
    · have hj : j < 6 := by have := (List.getElem?_eq_some_iff.1 hu).1; rwa [Stp.cells_len] at this
      rw [hc j hj]; exact hu
    · refine ⟨?_, ?_⟩
      · rw [hc j hj, List.getElem?_eq_getElem (by rw [Stp.cells_len]; exact hj)]; rfl
      · simp only [World.frozen?, h3]
        simp
end Go.Proofs.YtcjcflmnghhbaaaGreat
/-
  stops.New, Stops.Add; of chapter 28.
  Conditions: as each theorem states them.
-/
namespace Go.Proofs.YtcjcflmnghhbaaaGreat
open Go.RowKit
set_option linter.unusedVariables false
set_option linter.unusedSimpArgs false
section
variable {P : Program} {ops : Array Oper} {w : World}
/-- an append at an operation, and where the row lies behind it -/
theorem wp_append_at {o : Oper} {a : Act} {K : Act → World → Prop} {Q : Exit → Act → World → Prop} (s x : Operand) (t : TypeId)
    (ho : o.op = .call { callee := .builtin .append, args := #[s, x], argTypes := #[t, t] })
    (base : Nat) (e : TypeId) (i : TypeInfo) (z : Value) (size bytes : Nat) (ht : P.underlying t = some (.slice e)) (hi : P.info? e = some i) (hz : i.zero = some z)
    (hsize : i.size = size) (hby : i.bytes = bytes) (hzs : z.cells.size = size) (hsz : 0 < size)
    (v : Value) (n : Nat) (xs : List Value) (hs : a.eval s = v) (hown : w.ownsRow base e size v n xs)
    (ad : Addr) (m c : Nat) (news : List Value) (hx : a.eval x = .slice (some ad) m c) (hsv : ∀ j u, news[j]? = some u → w.cell? (ad.add j) = some u) (hl : news.length = m * size) (h1 : ∀ u ∈ news, u.oneCell' = true)
    (h63 : n + m ≤ maxLen) (hbytes : (n + m) * bytes ≤ 140737488355328) (hbase : base ≤ w.heap.size)
    (h : ∀ v' w', w'.ownsRow base e size v' (n + m) (xs ++ news) → w.grownBy w' v.ownBlock → (v'.ownBlock = v.ownBlock ∨ v'.ownBlock = some w.heap.size) → K (a.put o.dst v') w') : o.wp P a w K Q := by
  obtain ⟨v', w', hr, h2, h3, _, h4⟩ := run_append_own_at (P := P) w base t o.type e i z size bytes ht hi hz hsize hby hzs hsz v n xs hown ad m c news hl hsv h1 h63 hbytes hbase
  unfold Oper.wp execOp
  simp only [ho, resolve, invoke, builtin, Sem.run_bind, Sem.run_pure, Result.andThen_ok, List.map_toArray, List.map_cons, List.map_nil, hs, hx, hr]
  exact h v' w' h2 h3 h4
end
theorem new_stops (N : Nat) (w : World) (hN : N ≤ w.heap.size) : Calls Tryz.prog 6 #[] w fun e w' => ∃ p, e = .returned (.pointer (some ⟨p, 0, none⟩)) ∧ StopsAt N w' p [] 0 ∧ Below w.heap.size w w' := by
  have hB := Blk.new w 71 [.slice none 0 0, .int .i64 0]
  have hS : StopsAt N (w.alloc (.cells [.slice none 0 0, .int .i64 0].toArray 71)) w.heap.size [] 0 := ⟨.slice none 0 0, hN, hB, World.ownsRow_nil _ _ _ _, by simp [Value.ownBlock], fun x hx => by cases hx⟩
  have hb : Below w.heap.size w (w.alloc (.cells [.slice none 0 0, .int .i64 0].toArray 71)) := bl_alloc (Below.refl _ _) _
  replace hS := Lib.hid hS
  replace hb := Lib.hid hb
  clear hB hN
  go_enter Tryz.func6, Tryz.ntmps6
  go_wp2_with fail
  go_ret
  exact ⟨_, rfl, hS.out, hb.out⟩
/-- what is added, or why nothing is -/
def addS (full : Bool) (kind n : Int) (s : List UInt8) : Except (Int × Int) (Option CM.M) :=
  if kind = 0 then if n < 0 ∨ 200 < n then .error (0, 3) else if full then .error (0, 7) else .ok none
  else if kind = 1 then if n < 1 ∨ 2147483648 < n then .error (0, 3) else if full then .error (0, 7) else .ok none
  else if kind = 2 then match CM.parseS s with
    | .error (a, x) => .error ((a : Int), x)
    | .ok phi => if full then .error (0, 7) else .ok (some phi)
  else .error (0, 1)
def newN (kind n : Int) : Int := if kind = 2 then 0 else n
def newC (kind : Int) (s : List UInt8) : List UInt8 := if kind = 2 then s else []
/-- what Add answers -/
def AddIs (N p : Nat) (l : List Stp) (last kind n : Int) (s : List UInt8) (e : Ending) (w' : World) : Prop :=
  match addS (l.length == 32) kind n s with
  | .error (a, x) => e = .returned (.tuple #[.int .i64 0, .int .i64 a, .int .i64 x]) ∧ StopsAt N w' p l last
  | .ok o => e = .returned (.tuple #[.int .i64 (last + 1), .int .i64 0, .int .i64 0]) ∧ ∃ c, StopsAt N w' p (l ++ [⟨last + 1, kind, newN kind n, newC kind s, false, c⟩]) (last + 1) ∧ c.map (fun t => t.2.2.2) = o
theorem add_nil (kind n : Int) (s : ByteArray) (w : World) : Calls Tryz.prog 11 #[.pointer none, .int .i64 kind, .int .i64 n, .string s] w fun e w' => e = .returned (.tuple #[.int .i64 0, .int .i64 0, .int .i64 1]) ∧ w = w' := by
  go_enter Tryz.func11, Tryz.ntmps11
  go_wp2_with fail
  all_goals go_ret3
  all_goals exact ⟨rfl, rfl⟩
theorem infoStp : (Tryz.prog.info? 75).map (fun i => (i.zero, i.size, i.bytes)) = some (some (.agg #[.int .i64 0, .int .i64 0, .int .i64 0, .string ⟨#[]⟩, .bool false, .pointer none]), 6, 56) := by kernel_rfl
/-- the row and the conditions behind an append -/
theorem added {N p g : Nat} {w1 w2 : World} {v v2 : Value} {l : List Stp} {x : Stp} {L : Int} (hnp : N ≤ p) (hp : Blk w1 p 71 [v, .int .i64 L]) (hx : Blk w1 g 75 x.cells) (hap : v.ownBlock ≠ some p) (hgv : v.ownBlock ≠ some g) (hcs : ∀ y ∈ l, CAt p v w1 y) (hcx : CAt p v w1 x)
    (hg : (w1.alloc (.cells x.cells.toArray 75)).grownBy w2 v.ownBlock) (ho : w2.ownsRow N 75 6 v2 (l.length + 1) (stpsC l ++ x.cells)) (hv : v2.ownBlock = v.ownBlock ∨ v2.ownBlock = some (w1.alloc (.cells x.cells.toArray 75)).heap.size) :
    Blk w2 p 71 [v, .int .i64 L] ∧ Blk w2 g 75 x.cells ∧ StopsR N (w2.setCell ⟨p, 0, none⟩ v2) p v2 (l ++ [x]) L := by
  have hpl := hp.lt
  have hgl := hx.lt
  have hp2 : Blk w2 p 71 [v, .int .i64 L] := (hp.alloc _).of_eq (hg.block p (by simp; omega) (fun e => hap e.symm))
  have hx2 : Blk w2 g 75 x.cells := (hx.alloc _).of_eq (hg.block g (by simp; omega) (fun e => hgv e.symm))
  have hO : Only (fun k => k = p ∨ v.ownBlock = some k) w1 (w2.setCell ⟨p, 0, none⟩ v2) := by
    refine Only.setCell ?_ (p := ⟨p, 0, none⟩) (.inl rfl) _
    exact ⟨hg.os, hg.tape, hg.output, by have := hg.size; simp at this; omega, fun k hk hn => (hg.block k (by simp; omega) (fun e => hn (.inr e.symm))).trans (Below.heap_alloc w1 _ k hk)⟩
  have hap2 : v2.ownBlock ≠ some p := by
    rcases hv with e | e
    · rw [e]; exact hap
    · rw [e]; intro e2; simp at e2; omega
  have hC : ∀ y, CAt p v w1 y → CAt p v2 (w2.setCell ⟨p, 0, none⟩ v2) y := fun y hy cb lo hi phi e => by
    obtain ⟨h1, h2, h3⟩ := hy.only hO (fun k hk => by rcases hk with h | h; exact .inl h; exact .inr (.inl h)) cb lo hi phi e
    have h4 := (hy cb lo hi phi e).1.hi
    refine ⟨h1, h2, fun r hr => ?_⟩
    rcases hv with e | e
    · exact h3 r (by rw [← e]; exact hr)
    · rw [e] at hr; simp at hr; omega
  refine ⟨hp2, hx2, ⟨hnp, hp2.set 0 v2, ?_, hap2, fun y hy => ?_⟩⟩
  · rw [List.length_append, stpsC_app, show stpsC [x] = x.cells from by simp [stpsC]]
    refine ⟨ho.1, ?_⟩
    rcases ho.2 with h | ⟨g2, cap, cur, h1, h2, h3, h4⟩
    · exact .inl h
    · refine .inr ⟨g2, cap, cur, h1, h2, ?_, h4⟩
      rw [Below.heap_setCell _ _ _ _ (fun e => hap2 (by rw [h1, e]; rfl))]; exact h3
  · rcases List.mem_append.1 hy with h | h
    · exact hC y (hcs y h)
    · obtain rfl : y = x := by simpa using h
      exact hC y hcx
def addX (kind n : Int) (s : List UInt8) (id : Int) (c : Option (Nat × Nat × Nat × CM.M)) : Stp := ⟨id, kind, newN kind n, newC kind s, false, c⟩
/-- behind Add's switch -/
def AddR (N p g : Nat) (v : Value) (l : List Stp) (last kind n : Int) (s : List UInt8) (o : Option CM.M) (wx : World) : Prop :=
  addS (l.length == 32) kind n s = (if l.length == 32 then .error (0, 7) else .ok o) ∧ ∃ c, Blk wx g 75 (addX kind n s 0 c).cells ∧ CAt p v wx (addX kind n s 0 c) ∧ (∀ cb lo hi phi, c = some (cb, lo, hi, phi) → g ≤ lo) ∧ c.map (fun t => t.2.2.2) = o ∧ StopsR N wx p v l last
theorem AddIs.err {N p : Nat} {l : List Stp} {last kind n a x : Int} {s : List UInt8} {w' : World} (h : addS (l.length == 32) kind n s = .error (a, x)) (hS : StopsAt N w' p l last) : AddIs N p l last kind n s (.returned (.tuple #[.int .i64 0, .int .i64 a, .int .i64 x])) w' := by
  unfold AddIs; rw [h]; exact ⟨rfl, hS⟩
theorem AddIs.ok {N p : Nat} {l : List Stp} {last kind n : Int} {s : List UInt8} {w' : World} {o : Option CM.M} {c : Option (Nat × Nat × Nat × CM.M)} (h : addS (l.length == 32) kind n s = .ok o) (hS : StopsAt N w' p (l ++ [addX kind n s (last + 1) c]) (last + 1)) (hc : c.map (fun t => t.2.2.2) = o) : AddIs N p l last kind n s (.returned (.tuple #[.int .i64 (last + 1), .int .i64 0, .int .i64 0])) w' := by
  unfold AddIs; rw [h]; exact ⟨rfl, c, hS, hc⟩
theorem CAt.none {p : Nat} {v : Value} {W : World} {x : Stp} (h : x.c = none) : CAt p v W x := fun cb lo hi phi e => by rw [h] at e; cases e
end Go.Proofs.YtcjcflmnghhbaaaGreat
