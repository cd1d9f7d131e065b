/-
  stops.New, Stops.Add; of chapter 28.
  Conditions: as each theorem states them.
-/
import Derived.Test.YtlaafamodaogmaaStopP
import Derived.Deep.DeepCutAuto
import Derived.Deep.RegionLaw
import Derived.Deep.CutBlock
namespace Go.Proofs.Ytlaafamodaogmaa
open Go.RowKit
set_option linter.unusedVariables false
set_option linter.unusedSimpArgs false
section
variable {P : Program} {ops : Array Oper} {w : World}
/-- an append at an operation, and where the row lies behind it -/
theorem wp_append_at {o : Oper} {a : Act} {K : Act → World → Prop} {Q : Exit → Act → World → Prop} (s x : Operand) (t : TypeId)
    (ho : o.op = .call { callee := .builtin .append, args := #[s, x], argTypes := #[t, t] })
    (base : Nat) (e : TypeId) (i : TypeInfo) (z : Value) (size bytes : Nat) (ht : P.underlying t = some (.slice e)) (hi : P.info? e = some i) (hz : i.zero = some z)
    (hsize : i.size = size) (hby : i.bytes = bytes) (hzs : z.cells.size = size) (hsz : 0 < size)
    (v : Value) (n : Nat) (xs : List Value) (hs : a.eval s = v) (hown : w.ownsRow base e size v n xs)
    (ad : Addr) (m c : Nat) (news : List Value) (hx : a.eval x = .slice (some ad) m c) (hsv : ∀ j u, news[j]? = some u → w.cell? (ad.add j) = some u) (hl : news.length = m * size) (h1 : ∀ u ∈ news, u.oneCell' = true)
    (h63 : n + m ≤ maxLen) (hbytes : (n + m) * bytes ≤ 140737488355328) (hbase : base ≤ w.heap.size)
    (h : ∀ v' w', w'.ownsRow base e size v' (n + m) (xs ++ news) → w.grownBy w' v.ownBlock → (v'.ownBlock = v.ownBlock ∨ v'.ownBlock = some w.heap.size) → K (a.put o.dst v') w') : o.wp P a w K Q := by
  obtain ⟨v', w', hr, h2, h3, _, h4⟩ := run_append_own_at (P := P) w base t o.type e i z size bytes ht hi hz hsize hby hzs hsz v n xs hown ad m c news hl hsv h1 h63 hbytes hbase
  unfold Oper.wp execOp
  simp only [ho, resolve, invoke, builtin, Sem.run_bind, Sem.run_pure, Result.andThen_ok, List.map_toArray, List.map_cons, List.map_nil, hs, hx, hr]
  exact h v' w' h2 h3 h4
end
theorem new_stops (N : Nat) (w : World) (hN : N ≤ w.heap.size) : Calls Try.prog 19 #[] w fun e w' => ∃ p, e = .returned (.pointer (some ⟨p, 0, none⟩)) ∧ StopsAt N w' p [] 0 ∧ Below w.heap.size w w' := by
  have hB := Blk.new w 101 [.slice none 0 0, .int .i64 0]
  have hS : StopsAt N (w.alloc (.cells [.slice none 0 0, .int .i64 0].toArray 101)) w.heap.size [] 0 := ⟨.slice none 0 0, hN, hB, World.ownsRow_nil _ _ _ _, by simp [Value.ownBlock], fun x hx => by cases hx⟩
  have hb : Below w.heap.size w (w.alloc (.cells [.slice none 0 0, .int .i64 0].toArray 101)) := bl_alloc (Below.refl _ _) _
  replace hS := Lib.hid hS
  replace hb := Lib.hid hb
  clear hB hN
  go_enter Try.func19, Try.ntmps19
  go_wp2_with fail
  go_ret
  exact ⟨_, rfl, hS.out, hb.out⟩
/-- what is added, or why nothing is -/
def addS (full : Bool) (kind n : Int) (s : List UInt8) : Except (Int × Int) (Option CM.M) :=
  if kind = 0 then if n < 0 ∨ 200 < n then .error (0, 3) else if full then .error (0, 7) else .ok none
  else if kind = 1 then if n < 1 ∨ 2147483648 < n then .error (0, 3) else if full then .error (0, 7) else .ok none
  else if kind = 2 then match CM.parseS s with
    | .error (a, x) => .error ((a : Int), x)
    | .ok phi => if full then .error (0, 7) else .ok (some phi)
  else .error (0, 1)
def newN (kind n : Int) : Int := if kind = 2 then 0 else n
def newC (kind : Int) (s : List UInt8) : List UInt8 := if kind = 2 then s else []
/-- what Add answers -/
def AddIs (N p : Nat) (l : List Stp) (last kind n : Int) (s : List UInt8) (e : Ending) (w' : World) : Prop :=
  match addS (l.length == 32) kind n s with
  | .error (a, x) => e = .returned (.tuple #[.int .i64 0, .int .i64 a, .int .i64 x]) ∧ StopsAt N w' p l last
  | .ok o => e = .returned (.tuple #[.int .i64 (last + 1), .int .i64 0, .int .i64 0]) ∧ ∃ c, StopsAt N w' p (l ++ [⟨last + 1, kind, newN kind n, newC kind s, false, c⟩]) (last + 1) ∧ c.map (fun t => t.2.2.2) = o
theorem add_nil (kind n : Int) (s : ByteArray) (w : World) : Calls Try.prog 20 #[.pointer none, .int .i64 kind, .int .i64 n, .string s] w fun e w' => e = .returned (.tuple #[.int .i64 0, .int .i64 0, .int .i64 1]) ∧ w = w' := by
  go_enter Try.func20, Try.ntmps20
  go_wp2_with fail
  all_goals go_ret3
  all_goals exact ⟨rfl, rfl⟩
theorem infoStp : (Try.prog.info? 103).map (fun i => (i.zero, i.size, i.bytes)) = some (some (.agg #[.int .i64 0, .int .i64 0, .int .i64 0, .string ⟨#[]⟩, .bool false, .pointer none]), 6, 56) := by kernel_rfl
/-- the row and the conditions behind an append -/
theorem added {N p g : Nat} {w1 w2 : World} {v v2 : Value} {l : List Stp} {x : Stp} {L : Int} (hnp : N ≤ p) (hp : Blk w1 p 101 [v, .int .i64 L]) (hx : Blk w1 g 103 x.cells) (hap : v.ownBlock ≠ some p) (hgv : v.ownBlock ≠ some g) (hcs : ∀ y ∈ l, CAt p v w1 y) (hcx : CAt p v w1 x)
    (hg : (w1.alloc (.cells x.cells.toArray 103)).grownBy w2 v.ownBlock) (ho : w2.ownsRow N 103 6 v2 (l.length + 1) (stpsC l ++ x.cells)) (hv : v2.ownBlock = v.ownBlock ∨ v2.ownBlock = some (w1.alloc (.cells x.cells.toArray 103)).heap.size) :
    Blk w2 p 101 [v, .int .i64 L] ∧ Blk w2 g 103 x.cells ∧ StopsR N (w2.setCell ⟨p, 0, none⟩ v2) p v2 (l ++ [x]) L := by
  have hpl := hp.lt
  have hgl := hx.lt
  have hp2 : Blk w2 p 101 [v, .int .i64 L] := (hp.alloc _).of_eq (hg.block p (by simp; omega) (fun e => hap e.symm))
  have hx2 : Blk w2 g 103 x.cells := (hx.alloc _).of_eq (hg.block g (by simp; omega) (fun e => hgv e.symm))
  have hO : Only (fun k => k = p ∨ v.ownBlock = some k) w1 (w2.setCell ⟨p, 0, none⟩ v2) := by
    refine Only.setCell ?_ (p := ⟨p, 0, none⟩) (.inl rfl) _
    exact ⟨hg.os, hg.tape, hg.output, by have := hg.size; simp at this; omega, fun k hk hn => (hg.block k (by simp; omega) (fun e => hn (.inr e.symm))).trans (Below.heap_alloc w1 _ k hk)⟩
  have hap2 : v2.ownBlock ≠ some p := by
    rcases hv with e | e
    · rw [e]; exact hap
    · rw [e]; intro e2; simp at e2; omega
  have hC : ∀ y, CAt p v w1 y → CAt p v2 (w2.setCell ⟨p, 0, none⟩ v2) y := fun y hy cb lo hi phi e => by
    obtain ⟨h1, h2, h3⟩ := hy.only hO (fun k hk => by rcases hk with h | h; exact .inl h; exact .inr (.inl h)) cb lo hi phi e
    have h4 := (hy cb lo hi phi e).1.hi
    refine ⟨h1, h2, fun r hr => ?_⟩
    rcases hv with e | e
    · exact h3 r (by rw [← e]; exact hr)
    · rw [e] at hr; simp at hr; omega
  refine ⟨hp2, hx2, ⟨hnp, hp2.set 0 v2, ?_, hap2, fun y hy => ?_⟩⟩
  · rw [List.length_append, stpsC_app, show stpsC [x] = x.cells from by simp [stpsC]]
    refine ⟨ho.1, ?_⟩
    rcases ho.2 with h | ⟨g2, cap, cur, h1, h2, h3, h4⟩
    · exact .inl h
    · refine .inr ⟨g2, cap, cur, h1, h2, ?_, h4⟩
      rw [Below.heap_setCell _ _ _ _ (fun e => hap2 (by rw [h1, e]; rfl))]; exact h3
  · rcases List.mem_append.1 hy with h | h
    · exact hC y (hcs y h)
    · obtain rfl : y = x := by simpa using h
      exact hC y hcx
def addX (kind n : Int) (s : List UInt8) (id : Int) (c : Option (Nat × Nat × Nat × CM.M)) : Stp := ⟨id, kind, newN kind n, newC kind s, false, c⟩
/-- behind Add's switch -/
def AddR (N p g : Nat) (v : Value) (l : List Stp) (last kind n : Int) (s : List UInt8) (o : Option CM.M) (wx : World) : Prop :=
  addS (l.length == 32) kind n s = (if l.length == 32 then .error (0, 7) else .ok o) ∧ ∃ c, Blk wx g 103 (addX kind n s 0 c).cells ∧ CAt p v wx (addX kind n s 0 c) ∧ (∀ cb lo hi phi, c = some (cb, lo, hi, phi) → g ≤ lo) ∧ c.map (fun t => t.2.2.2) = o ∧ StopsR N wx p v l last
theorem AddIs.err {N p : Nat} {l : List Stp} {last kind n a x : Int} {s : List UInt8} {w' : World} (h : addS (l.length == 32) kind n s = .error (a, x)) (hS : StopsAt N w' p l last) : AddIs N p l last kind n s (.returned (.tuple #[.int .i64 0, .int .i64 a, .int .i64 x])) w' := by
  unfold AddIs; rw [h]; exact ⟨rfl, hS⟩
theorem AddIs.ok {N p : Nat} {l : List Stp} {last kind n : Int} {s : List UInt8} {w' : World} {o : Option CM.M} {c : Option (Nat × Nat × Nat × CM.M)} (h : addS (l.length == 32) kind n s = .ok o) (hS : StopsAt N w' p (l ++ [addX kind n s (last + 1) c]) (last + 1)) (hc : c.map (fun t => t.2.2.2) = o) : AddIs N p l last kind n s (.returned (.tuple #[.int .i64 (last + 1), .int .i64 0, .int .i64 0])) w' := by
  unfold AddIs; rw [h]; exact ⟨rfl, c, hS, hc⟩
theorem CAt.none {p : Nat} {v : Value} {W : World} {x : Stp} (h : x.c = none) : CAt p v W x := fun cb lo hi phi e => by rw [h] at e; cases e
end Go.Proofs.Ytlaafamodaogmaa
