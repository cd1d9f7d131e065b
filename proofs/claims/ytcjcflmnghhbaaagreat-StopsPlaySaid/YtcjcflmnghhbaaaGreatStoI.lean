/-
  Both sides' breakpoints, call by call; of chapter 28.
  Conditions: as each theorem states them.
-/
import Derived.Test.YtcjcflmnghhbaaaGreatStoEh
import Derived.Test.YtcjcflmnghhbaaaGreatStoG
namespace Go.Proofs.YtcjcflmnghhbaaaGreat
open Go.RowKit
set_option linter.unusedVariables false
set_option linter.unusedSimpArgs false
/-- both sides, as the play keeps them -/
def PInv (N p xb : Nat) (B : Int) (go : Nat) (w : World) : Prop := ∃ v rv l last, Both N w p v xb rv l last ∧ Ids l last ∧ (∀ x ∈ l, OkS x) ∧ l.length ≤ 32 ∧ 0 ≤ last ∧ last ≤ B ∧ N ≤ xb ∧ (∀ r, rv.ownBlock = some r → N ≤ r) ∧ v.ownBlock ≠ some go ∧ rv.ownBlock ≠ some go
def ansA (r : Except (Int × Int) (Option CM.M)) (last : Int) : Int := match r with | .error _ => 0 | .ok _ => last + 1
def ansB (r : Except (Int × Int) (Option CM.M)) : Int := match r with | .error e => e.1 | .ok _ => 0
def ansC (r : Except (Int × Int) (Option CM.M)) : Int := match r with | .error e => e.2 | .ok _ => 0
def ansE (r : Except (Int × Int) (Option CM.M)) (last : Int) : Ending := .returned (.tuple #[.int .i64 (ansA r last), .int .i64 (ansB r), .int .i64 (ansC r)])
theorem AddO.ans {N p g : Nat} {v : Value} {l : List Stp} {last kind n : Int} {s : List UInt8} {e : Ending} {w' : World} (h : AddO N p g v l last kind n s e w') : e = ansE (addS (l.length == 32) kind n s) last := by
  unfold AddO at h
  cases hq : addS (l.length == 32) kind n s with
  | error x => obtain ⟨a, x⟩ := x; rw [hq] at h; exact h.1
  | ok o => rw [hq] at h; exact h.1
theorem RAddIs.ans {W : World} {xb : Nat} {rv : Value} {l : List Stp} {last kind n : Int} {s : List UInt8} {e : Ending} {w' : World} (h : RAddIs W xb rv l last kind n s e w') : e = ansE (addS (l.length == 32) kind n s) last := by
  unfold RAddIs at h
  cases hq : addS (l.length == 32) kind n s with
  | error x => obtain ⟨a, x⟩ := x; rw [hq] at h; exact h.1
  | ok o => rw [hq] at h; exact h.1
theorem add_okS {full : Bool} {kind n id : Int} {s : List UInt8} {o : Option CM.M} {c : Option (Nat × Nat × Nat × CM.M)} (h : addS full kind n s = .ok o) (hc : c.map (fun t => t.2.2.2) = o) (hs : s.length ≤ 100) : OkS ⟨id, kind, newN kind n, newC kind s, false, c⟩ := by
  unfold addS at h
  by_cases k0 : kind = 0
  · exact .inl (.inl k0)
  rw [if_neg k0] at h
  by_cases k1 : kind = 1
  · exact .inl (.inr k1)
  rw [if_neg k1] at h
  by_cases k2 : kind = 2
  · rw [if_pos k2] at h
    cases hp : CM.parseS s with
    | error e => rw [hp] at h; cases h
    | ok phi =>
      rw [hp] at h
      simp only at h
      split at h
      · cases h
      · injection h with h
        refine .inr ⟨k2, phi, by show c.map (fun t => t.2.2.2) = _; rw [hc, h], ?_, ?_⟩
        · show CM.parseS (newC kind s) = _; unfold newC; rw [if_pos k2]; exact hp
        · show (newC kind s).length ≤ 100; unfold newC; rw [if_pos k2]; exact hs
  · rw [if_neg k2] at h; cases h
theorem PInv.add {N p xb go : Nat} {B : Int} {w w5 w6 : World} {v rv : Value} {l : List Stp} {last kind n : Int} {s : List UInt8} {e1 e2 : Ending} (h : Both N w p v xb rv l last) (hI : Ids l last) (hok : ∀ x ∈ l, OkS x) (hl : l.length ≤ 32) (h0 : 0 ≤ last) (hB : last ≤ B) (hNx : N ≤ xb) (hNr : ∀ r, rv.ownBlock = some r → N ≤ r) (hvg : v.ownBlock ≠ some go) (hrg : rv.ownBlock ≠ some go) (hgo : go < w.heap.size) (hs : s.length ≤ 100)
    (hA : AddO N p w.heap.size v l last kind n s e1 w5) (hO : Only (OwnK p w.heap.size v) w w5) (hR : RAddIs w5 xb rv l last kind n s e2 w6) : PInv N p xb (B + 1) go w6 := by
  unfold AddO at hA
  unfold RAddIs at hR
  cases hq : addS (l.length == 32) kind n s with
  | error x =>
    obtain ⟨a, x⟩ := x
    rw [hq] at hA hR
    exact ⟨v, rv, l, last, h.step hA.2 hO (fun r hr => .inl hr) (fun x hx cb lo hi phi e => .inl ⟨x, hx, rfl⟩) hR.2.1 hR.2.2 (fun r hr => .inl hr), hI, hok, hl, h0, by omega, hNx, hNr, hvg, hrg⟩
  | ok o =>
    rw [hq] at hA hR
    obtain ⟨_, c, v', hS', hv', hcl, hc⟩ := hA
    obtain ⟨_, rv', hR', hO', hr'⟩ := hR
    have hl32 : l.length ≠ 32 := fun e => by
      unfold addS at hq
      rw [e] at hq
      simp only [beq_self_eq_true, if_true] at hq
      split at hq
      · split at hq <;> cases hq
      · split at hq
        · split at hq <;> cases hq
        · split at hq
          · split at hq <;> cases hq
          · cases hq
    refine ⟨v', rv', _, last + 1, h.step hS' hO hv' (fun x hx cb lo hi phi e => ?_) (hR' c) hO' hr', hI.add rfl, fun x hx => ?_, by rw [List.length_append]; show l.length + 1 ≤ 32; omega, by omega, by omega, hNx, fun r hr => (hr' r hr).elim (hNr r) (fun h2 => by have := h.R.blk.lt; have := hO.size; omega), fun e => (hv' go e).elim hvg (fun h2 => by omega), fun e => (hr' go e).elim hrg (fun h2 => by have := hO.size; omega)⟩
    · rcases List.mem_append.1 hx with hx | hx
      · exact .inl ⟨x, hx, rfl⟩
      · obtain rfl : x = _ := by simpa using hx
        exact .inr (hcl cb lo hi phi e)
    · rcases List.mem_append.1 hx with hx | hx
      · exact hok x hx
      · obtain rfl : x = _ := by simpa using hx
        exact add_okS hq hc hs
theorem PInv.turn {N p xb go : Nat} {B : Int} {w w5 w6 : World} {v rv : Value} {l : List Stp} {last id : Int} {on : Bool} (h : Both N w p v xb rv l last) (hI : Ids l last) (hok : ∀ x ∈ l, OkS x) (hl : l.length ≤ 32) (h0 : 0 ≤ last) (hB : last ≤ B) (hNx : N ≤ xb) (hNr : ∀ r, rv.ownBlock = some r → N ≤ r) (hvg : v.ownBlock ≠ some go) (hrg : rv.ownBlock ≠ some go) (hgo : go < w.heap.size)
    (hS : StopsR N w5 p v (turnS id on l) last) (hO : Only (OwnK p w.heap.size v) w w5) (hR : RefL w6 xb rv (turnS id on l) last) (hO2 : Only (RefK xb rv) w5 w6) : PInv N p xb B go w6 :=
  ⟨v, rv, _, last, h.step hS hO (fun r hr => .inl hr) (fun x hx cb lo hi phi e => by obtain ⟨y, hy, e1, _⟩ := mem_turn hx; exact .inl ⟨y, hy, e1.symm⟩) hR hO2 (fun r hr => .inl hr), hI.turn id on, fun x hx => by
    obtain ⟨y, hy, e1, _, e2, e3⟩ := mem_turn hx
    have := hok y hy
    unfold OkS Stp.phi at this ⊢
    rw [e1, e2, e3]; exact this, by rw [turn_len]; exact hl, h0, hB, hNx, hNr, hvg, hrg⟩
theorem PInv.del {N p xb go : Nat} {B : Int} {w w5 w6 : World} {v v' rv rv' : Value} {l : List Stp} {last id : Int} (h : Both N w p v xb rv l last) (hI : Ids l last) (hok : ∀ x ∈ l, OkS x) (hl : l.length ≤ 32) (h0 : 0 ≤ last) (hB : last ≤ B) (hNx : N ≤ xb) (hNr : ∀ r, rv.ownBlock = some r → N ≤ r) (hvg : v.ownBlock ≠ some go) (hrg : rv.ownBlock ≠ some go) (hgo : go < w.heap.size)
    (hS : StopsR N w5 p v' (delS id l) last) (hv : v'.ownBlock = v.ownBlock) (hO : Only (OwnK p w.heap.size v) w w5) (hR : RefL w6 xb rv' (delS id l) last) (hO2 : Only (RefK xb rv) w5 w6) (hr : ∀ r, rv'.ownBlock = some r → rv.ownBlock = some r ∨ w5.heap.size ≤ r) : PInv N p xb B go w6 :=
  ⟨v', rv', _, last, h.step hS hO (fun r hr => .inl (hv ▸ hr)) (fun x hx cb lo hi phi e => .inl ⟨x, (List.mem_filter.1 hx).1, rfl⟩) hR hO2 hr, hI.del id, fun x hx => hok x (List.mem_filter.1 hx).1, Nat.le_trans (List.length_filter_le _ _) hl, h0, hB, hNx, fun r hr2 => (hr r hr2).elim (hNr r) (fun h2 => by have := h.R.blk.lt; have := hO.size; omega), fun e => hvg (hv ▸ e), fun e => (hr go e).elim hrg (fun h2 => by have := hO.size; omega)⟩
/-- what both sides leave as it was: the blocks below both -/
theorem two_below {N0 N p xb : Nat} {w w5 w6 : World} {v rv : Value} {l : List Stp} {last : Int} (h : Both N w p v xb rv l last) (hN : N0 ≤ N) (hx : N0 ≤ xb) (hr : ∀ r, rv.ownBlock = some r → N0 ≤ r) (hO : Only (OwnK p w.heap.size v) w w5) (hO2 : Only (RefK xb rv) w5 w6) : Below N0 w w6 := by
  have hp := h.S.np
  have hps := h.S.blk.lt
  refine (hO.below (by omega) (fun k hk => ?_)).trans (hO2.below (by have := hO.size; omega) (fun k hk => ?_))
  · rcases hk with rfl | hk | hk
    · omega
    · have := (h.S.row.lt k hk).1; omega
    · omega
  · rcases hk with rfl | hk
    · exact hx
    · exact hr k hk
theorem two_keep {N p xb go : Nat} {w w5 w6 : World} {v rv : Value} {l : List Stp} {last : Int} (h : Both N w p v xb rv l last) (hgp : go ≠ p) (hgx : go ≠ xb) (hvg : v.ownBlock ≠ some go) (hrg : rv.ownBlock ≠ some go) (hgo : go < w.heap.size) (hO : Only (OwnK p w.heap.size v) w w5) (hO2 : Only (RefK xb rv) w5 w6) : w6.heap[go]? = w.heap[go]? :=
  (hO2.block go (Nat.lt_of_lt_of_le hgo hO.size) (by rintro (e | e); exact hgx e; exact hrg e)).trans (hO.block go hgo (by rintro (e | e | e); exact hgp e; exact hvg e; omega))
theorem PInv.up {N p xb go : Nat} {B B' : Int} {w : World} (h : PInv N p xb B go w) (hB : B ≤ B') : PInv N p xb B' go w := by
  obtain ⟨v, rv, l, last, h1, h2, h3, h4, h5, h6, h7⟩ := h
  exact ⟨v, rv, l, last, h1, h2, h3, h4, h5, Int.le_trans h6 hB, h7⟩
theorem PInv.to {N p xb go go' : Nat} {B : Int} {w : World} (h : PInv N p xb B go w) (hg : go' < N) : PInv N p xb B go' w := by
  obtain ⟨v, rv, l, last, h1, h2, h3, h4, h5, h6, h7, h8, _, _⟩ := h
  exact ⟨v, rv, l, last, h1, h2, h3, h4, h5, h6, h7, h8, fun e => by have := (h1.S.row.lt _ e).1; omega, fun e => by have := h8 _ e; omega⟩
theorem PInv.below {N p xb go : Nat} {B : Int} {w w' : World} (h : PInv N p xb B go w) (hb : Below w.heap.size w w') : PInv N p xb B go w' := by
  obtain ⟨v, rv, l, last, h1, h2⟩ := h
  exact ⟨v, rv, l, last, h1.below hb, h2⟩
theorem bl_trans2 {N : Nat} {a b c : World} (h : Below N a b) (hN : N ≤ a.heap.size) (k : Below b.heap.size b c) : Below N a c := h.trans (k.mono (Nat.le_trans hN h.size))
theorem bl_trans_N {N : Nat} {a b c : World} (h : Below N a b) (k : Below N b.drew c) : Below N a c := h.trans ⟨k.os, k.tape, k.output, k.size, k.block⟩
end Go.Proofs.YtcjcflmnghhbaaaGreat
