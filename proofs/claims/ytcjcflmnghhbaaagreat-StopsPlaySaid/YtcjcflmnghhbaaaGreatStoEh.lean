/-
  The reference's Add; of chapter 28.
  Conditions: as each theorem states them.
-/
import Derived.Test.YtcjcflmnghhbaaaGreatStoCd
import Derived.Test.YtcjcflmnghhbaaaGreatRqD
namespace Go.Proofs.YtcjcflmnghhbaaaGreat
open Go.RowKit
set_option linter.unusedVariables false
set_option linter.unusedSimpArgs false
/-- what the reference's Add answers -/
def RAddIs (W : World) (xb : Nat) (rv : Value) (l : List Stp) (last kind n : Int) (s : List UInt8) (e : Ending) (w' : World) : Prop :=
  match addS (l.length == 32) kind n s with
  | .error (a, x) => e = .returned (.tuple #[.int .i64 0, .int .i64 a, .int .i64 x]) ∧ RefL w' xb rv l last ∧ Only (RefK xb rv) W w'
  | .ok _ => e = .returned (.tuple #[.int .i64 (last + 1), .int .i64 0, .int .i64 0]) ∧ ∃ rv', (∀ c, RefL w' xb rv' (l ++ [⟨last + 1, kind, newN kind n, newC kind s, false, c⟩]) (last + 1)) ∧ Only (RefK xb rv) W w' ∧ ∀ r, rv'.ownBlock = some r → rv.ownBlock = some r ∨ W.heap.size ≤ r
theorem RAddIs.err {W : World} {xb : Nat} {rv : Value} {l : List Stp} {last kind n a x : Int} {s : List UInt8} {w' : World} (h : RefL W xb rv l last) (hq : addS (l.length == 32) kind n s = .error (a, x)) (hb : Below W.heap.size W w') : RAddIs W xb rv l last kind n s (.returned (.tuple #[.int .i64 0, .int .i64 a, .int .i64 x])) w' := by
  unfold RAddIs; rw [hq]; exact ⟨rfl, h.below hb, Only.of_below hb⟩
/-- the reference's row grows -/
theorem RefL.add {w w2 : World} {xb : Nat} {rv v2 : Value} {l : List Stp} {last : Int} (h : RefL w xb rv l last) (x : Stp)
    (hg : (w.alloc (.cells x.brk.toArray 60)).grownBy w2 rv.ownBlock) (ho : w2.ownsRow 0 60 5 v2 (l.length + 1) (brksC l ++ x.brk)) (hv : v2.ownBlock = rv.ownBlock ∨ v2.ownBlock = some (w.alloc (.cells x.brk.toArray 60)).heap.size) :
    Blk w2 xb 43 [rv, .int .i64 last] ∧ RefL (w2.setCell ⟨xb, 0, none⟩ v2) xb v2 (l ++ [x]) last ∧ Only (RefK xb rv) w (w2.setCell ⟨xb, 0, none⟩ v2) ∧ (∀ r, v2.ownBlock = some r → rv.ownBlock = some r ∨ w.heap.size ≤ r) ∧ ∀ b, b < w.heap.size → rv.ownBlock ≠ some b → w2.heap[b]? = w.heap[b]? := by
  have hpl := h.blk.lt
  have hsz : (w.alloc (.cells x.brk.toArray 60)).heap.size = w.heap.size + 1 := by simp
  have hkeep : ∀ b, b < w.heap.size → rv.ownBlock ≠ some b → w2.heap[b]? = w.heap[b]? := fun b hb hn => (hg.block b (by omega) (fun e => hn e.symm)).trans (Below.heap_alloc w _ b hb)
  have hp2 : Blk w2 xb 43 [rv, .int .i64 last] := h.blk.of_eq (hkeep xb hpl h.apart)
  have hO : Only (RefK xb rv) w (w2.setCell ⟨xb, 0, none⟩ v2) := by
    refine Only.setCell ?_ (p := ⟨xb, 0, none⟩) (.inl rfl) _
    exact ⟨hg.os, hg.tape, hg.output, by have := hg.size; omega, fun k hk hn => hkeep k hk (fun e => hn (.inr e))⟩
  have hr : ∀ r, v2.ownBlock = some r → rv.ownBlock = some r ∨ w.heap.size ≤ r := fun r hr => by
    rcases hv with e | e
    · exact .inl (e ▸ hr)
    · rw [e] at hr; injection hr with hr; exact .inr (by omega)
  have hap : v2.ownBlock ≠ some xb := fun e => by
    rcases hr xb e with e | e
    · exact h.apart e
    · omega
  refine ⟨hp2, ⟨hp2.set 0 v2, ?_, hap⟩, hO, hr, hkeep⟩
  rw [List.length_append, brksC_app, show brksC [x] = x.brk from by simp [brksC]]
  exact ownsRow_only ho ((Only.refl (fun k => k = xb) w2).setCell (p := ⟨xb, 0, none⟩) rfl _) (fun r hr e => hap (by rw [hr, e]))
theorem RefL.congr {W : World} {xb : Nat} {rv : Value} {l l' : List Stp} {last : Int} (h : RefL W xb rv l last) (hl : l'.length = l.length) (hb : brksC l' = brksC l) : RefL W xb rv l' last := ⟨h.blk, by rw [hl, hb]; exact h.row, h.apart⟩
theorem RAddIs.ok {W : World} {xb : Nat} {rv v8 : Value} {l : List Stp} {last kind n : Int} {s : List UInt8} {w8 : World} {o : Option CM.M} (hq : addS (l.length == 32) kind n s = .ok o) (h8 : RefL w8 xb v8 (l ++ [⟨last + 1, kind, newN kind n, newC kind s, false, none⟩]) (last + 1)) (hO : Only (RefK xb rv) W w8) (hr : ∀ r, v8.ownBlock = some r → rv.ownBlock = some r ∨ W.heap.size ≤ r) : RAddIs W xb rv l last kind n s (.returned (.tuple #[.int .i64 (last + 1), .int .i64 0, .int .i64 0])) w8 := by
  unfold RAddIs; rw [hq]
  exact ⟨rfl, v8, fun c => h8.congr (by simp) (by simp [brksC, Stp.brk]), hO, hr⟩
theorem Only.trans_new {K : Nat → Prop} {a b : World} {g j : Nat} {v : Value} (h : Only K a b) (hg : a.heap.size ≤ g) : Only K a (b.setCell ⟨g, j, none⟩ v) :=
  ⟨h.os, h.tape, h.output, by simpa using h.size, fun i hi hn => (Below.heap_setCell _ _ _ _ (by show i ≠ g; omega)).trans (h.block i hi hn)⟩
set_option maxHeartbeats 8000000 in
set_option maxRecDepth 100000 in
theorem radd_any {W : World} {xb : Nat} {rv : Value} {l : List Stp} {last : Int} (h : RefL W xb rv l last) (hl : l.length ≤ 32) (h0 : 0 ≤ last) (h1 : last ≤ 1000000000) (kind n : Int) (s : List UInt8) (hs : s.length ≤ 4096) :
    Calls Tryz.prog 12 #[.pointer (some ⟨xb, 0, none⟩), .int .i64 kind, .int .i64 n, strV s] W (RAddIs W xb rv l last kind n s) := by
  obtain ⟨i0, hi, hz0, hz1, hz2⟩ := info_parts infoBrk
  obtain ⟨va, vc, rfl⟩ := own_slice h.row
  have hgp : xb < W.heap.size := h.blk.lt
  have hgv : (Value.slice va l.length vc).ownBlock ≠ some W.heap.size := fun e => by have := (h.row.lt _ e).2; omega
  have hpa := Lib.hid (fun w' => rparse_any s hs w')
  have herr := Lib.hid (fun (a x : Int) (hq : addS (l.length == 32) kind n s = .error (a, x)) w' (hb : Below W.heap.size W w') => RAddIs.err h hq hb)
  go_enter Tryz.func12, Tryz.ntmps12
  go_upto_region 2 with fail
  have hX1 : Blk (W.alloc (.cells #[.int .i64 0, .int .i64 kind, .int .i64 n, .string ⟨#[]⟩, .bool false] 60)) W.heap.size 60 [.int .i64 0, .int .i64 kind, .int .i64 n, .string ⟨#[]⟩, .bool false] := Blk.new W 60 [.int .i64 0, .int .i64 kind, .int .i64 n, .string ⟨#[]⟩, .bool false]
  generalize hW1 : World.alloc W _ = W1 at *
  have hb1 : Below W.heap.size W W1 := by rw [← hW1]; exact bl_alloc (Below.refl _ _) _
  have hR1 := h.below hb1
  have hg1 : W.heap.size < W1.heap.size := hX1.lt
  generalize hg : W.heap.size = g at *
  replace hR1 := Lib.hid hR1
  replace hb1 := Lib.hid hb1
  replace hX1 := Lib.hid hX1
  clear hW1 h
  by_cases kl : kind < 0
  · have hr := Lib.hid (herr.out 0 1 (by unfold addS; rw [if_neg (by omega), if_neg (by omega), if_neg (by omega)]) W1 hb1.out)
    have q0 : decide (kind < 0) = true := by simpa using kl
    clear herr hpa
    go_wp2_with fail
    go_ret3
    exact hr.out
  have q0 : decide (kind < 0) = false := by simpa using kl
  by_cases kh : 2 < kind
  · have hr := Lib.hid (herr.out 0 1 (by unfold addS; rw [if_neg (by omega), if_neg (by omega), if_neg (by omega)]) W1 hb1.out)
    have q1 : decide (2 < kind) = true := by simpa using kh
    clear herr hpa
    go_wp2_with fail
    go_ret3
    exact hr.out
  have q1 : decide (2 < kind) = false := by simpa using kh
  by_cases k0 : kind = 0 ∧ (n < 0 ∨ 200 < n)
  · obtain ⟨rfl, kn⟩ := k0
    have hr := Lib.hid (herr.out 0 3 (by unfold addS; rw [if_pos rfl, if_pos kn]) W1 hb1.out)
    clear herr hpa kl kh q0 q1
    by_cases k1 : n < 0
    · have q2 : decide (n < 0) = true := by simpa using k1
      go_wp2_with fail
      go_ret3
      exact hr.out
    · have q2 : decide (n < 0) = false := by simpa using k1
      have q3 : decide (200 < n) = true := by simp; omega
      go_wp2_with fail
      go_ret3
      exact hr.out
  by_cases k1 : kind = 1 ∧ (n < 1 ∨ 2147483648 < n)
  · obtain ⟨rfl, kn⟩ := k1
    have hr := Lib.hid (herr.out 0 3 (by unfold addS; rw [if_neg (by decide), if_pos rfl, if_pos kn]) W1 hb1.out)
    clear herr hpa kl kh q0 q1 k0
    by_cases k1 : n < 1
    · have q2 : decide (n < 1) = true := by simpa using k1
      go_wp2_with fail
      go_ret3
      exact hr.out
    · have q2 : decide (n < 1) = false := by simpa using k1
      have q3 : decide (2147483648 < n) = true := by simp; omega
      go_wp2_with fail
      go_ret3
      exact hr.out
  --ENDS
  have hgn : W.heap.size ≤ g := Nat.le_of_eq hg
  rcases (by omega : kind = 0 ∨ kind = 1 ∨ kind = 2) with rfl | rfl | rfl
  · have q2 : decide (n < 0) = false := by simp; omega
    have q3 : decide (200 < n) = false := by simp; omega
    have hq : addS (l.length == 32) 0 n s = (if l.length == 32 then .error (0, 7) else .ok none) := by unfold addS; rw [if_pos rfl, if_neg (by omega)]
    replace hq := Lib.hid hq
    clear hpa k0 k1 kl kh q0 q1
    go_upto_region 12 with fail
    obtain ⟨wX, hwX⟩ : ∃ wX, W1 = wX := ⟨_, rfl⟩
    rw [hwX] at hX1 hb1 hR1 hg1 ⊢
    clear hwX q2 q3
    have hR2 := hR1.out
    have xl2 := hR2.blk.lt
    have gl2 := hX1.out.lt
    have c0 : wX.cell? ⟨xb, 0, none⟩ = some (.slice va l.length vc) := hR2.blk.cell 0
    have hgx : g ≠ xb := by omega
    by_cases hf : l.length = 32
    · have hr := Lib.hid (herr.out 0 7 (by rw [hq.out, hf]; rfl) wX hb1.out)
      have qf : decide ((32 : Int) ≤ (l.length : Int)) = true := by simp; omega
      clear herr
      go_wp2_with fail
      go_ret3
      exact hr.out
    have qf : decide ((32 : Int) ≤ (l.length : Int)) = false := by simp; omega
    have hnf : (l.length == 32) = false := by simpa using hf
    have c1 : wX.cell? ⟨xb, 1, none⟩ = some (.int .i64 last) := hR2.blk.cell 1
    have f1 : wX.frozen? ⟨xb, 1, none⟩ = false := hR2.blk.free 1
    have x0 : wX.cell? ⟨g, 0, none⟩ = some (.int .i64 0) := hX1.out.cell 0
    have y0 : wX.frozen? ⟨g, 0, none⟩ = false := hX1.out.free 0
    have hwl : IntKind.i64.wrap (last + 1) = last + 1 := IntWalk.i64_in _ (by omega)
    have hxg : xb ≠ g := by omega
    have hO6 : Only (fun k => k = xb ∨ k = g) wX ((wX.setCell ⟨xb, 1, none⟩ (.int .i64 (last + 1))).setCell ⟨g, 0, none⟩ (.int .i64 (last + 1))) := ((Only.refl (fun k => k = xb ∨ k = g) wX).setCell (p := ⟨xb, 1, none⟩) (.inl rfl) _).setCell (p := ⟨g, 0, none⟩) (.inr rfl) _
    have hR6 : RefL ((wX.setCell ⟨xb, 1, none⟩ (.int .i64 (last + 1))).setCell ⟨g, 0, none⟩ (.int .i64 (last + 1))) xb (.slice va l.length vc) l (last + 1) :=
      ⟨(hR2.blk.set 1 _).set_other (p := ⟨g, 0, none⟩) hgx _, ownsRow_only hR2.row hO6 (fun r hr => by rintro (rfl | rfl); exact hR2.apart hr; exact hgv hr), hR2.apart⟩
    have hX6 : Blk ((wX.setCell ⟨xb, 1, none⟩ (.int .i64 (last + 1))).setCell ⟨g, 0, none⟩ (.int .i64 (last + 1))) g 60 [.int .i64 (last + 1), .int .i64 0, .int .i64 n, .string ⟨#[]⟩, .bool false] := (hX1.out.set_other (p := ⟨xb, 1, none⟩) hxg _).set 0 _
    have hK6 : Only (RefK xb (.slice va l.length vc)) W ((wX.setCell ⟨xb, 1, none⟩ (.int .i64 (last + 1))).setCell ⟨g, 0, none⟩ (.int .i64 (last + 1))) := by
      have h1 := Only.setCell (S := RefK xb (.slice va l.length vc)) (Only.of_below (by rw [hg]; exact hb1.out)) (p := ⟨xb, 1, none⟩) (.inl rfl) (.int .i64 (last + 1))
      exact h1.trans_new hgn
    replace hR6 := Lib.hid hR6
    replace hX6 := Lib.hid hX6
    replace hK6 := Lib.hid hK6
    replace hR2 := Lib.hid hR2
    clear hO6 herr hf
    go_upto_region 16 with fail
    generalize World.setCell (World.setCell wX _ _) _ _ = w6 at *
    have e0 : w6.cell? ⟨g, 0, none⟩ = some (.int .i64 (last + 1)) := hX6.out.cell 0
    have e1 : w6.cell? ⟨g, 1, none⟩ = some (.int .i64 0) := hX6.out.cell 1
    have e2 : w6.cell? ⟨g, 2, none⟩ = some (.int .i64 n) := hX6.out.cell 2
    have e3 : w6.cell? ⟨g, 3, none⟩ = some (.string ⟨#[]⟩) := hX6.out.cell 3
    have e4 : w6.cell? ⟨g, 4, none⟩ = some (.bool false) := hX6.out.cell 4
    have p0 : w6.cell? ⟨xb, 0, none⟩ = some (.slice va l.length vc) := hR6.out.blk.cell 0
    have lg6 := hX6.out.lt
    have lp6 := hR6.out.blk.lt
    have hbd : Below w6.heap.size w6 w6.drew := bl_drew (Below.refl _ _)
    have hro := Lib.hid ((hR6.out.below hbd).row.alloc (.cells #[.int .i64 (last + 1), .int .i64 0, .int .i64 n, .string ⟨#[]⟩, .bool false] 60))
    have hsr := Lib.hid (fun j u (hj : ([.int .i64 (last + 1), .int .i64 0, .int .i64 n, .string ⟨#[]⟩, .bool false] : List Value)[j]? = some u) => cells_new w6.drew w6.heap.size rfl 60 [.int .i64 (last + 1), .int .i64 0, .int .i64 n, .string ⟨#[]⟩, .bool false] j u hj)
    have hone := Lib.hid (brk_one ⟨last + 1, 0, newN 0 n, newC 0 s, false, none⟩)
    have hadd := Lib.hid (fun v2 w7 (hg : (w6.drew.alloc (.cells #[.int .i64 (last + 1), .int .i64 0, .int .i64 n, .string ⟨#[]⟩, .bool false] 60)).grownBy w7 (Value.slice va l.length vc).ownBlock) ho hv => RefL.add (w := w6.drew) (w2 := w7) (v2 := v2) (hR6.out.below hbd) ⟨last + 1, 0, newN 0 n, newC 0 s, false, none⟩ hg ho hv)
    have hzW := hK6.out.size
    have hend := Lib.hid (fun v8 w8 (h8 : RefL w8 xb v8 (l ++ [⟨last + 1, 0, newN 0 n, newC 0 s, false, none⟩]) (last + 1)) (hO8 : Only (RefK xb (.slice va l.length vc)) w6.drew w8) (hr8 : ∀ r, v8.ownBlock = some r → (Value.slice va l.length vc).ownBlock = some r ∨ w6.drew.heap.size ≤ r) => RAddIs.ok (W := W) (by rw [hq.out, hnf]; rfl) h8 ((hK6.out.drew).trans hO8) (fun r hr => (hr8 r hr).imp id (fun h => Nat.le_trans hzW h)))
    replace hzW := Lib.hid hzW
    have hgk := Lib.hid (fun (w7 : World) (h7 : ∀ b, b < w6.drew.heap.size → (Value.slice va l.length vc).ownBlock ≠ some b → w7.heap[b]? = w6.drew.heap[b]?) => (World.cell?_of_block (a := ⟨g, 0, none⟩) (h7 g lg6 hgv)).trans e0)
    clear hX6 hR6 hR1 hX1 hK6 hbd hwl c0 c1 f1 x0 y0 hR2 hnf
    go_region_law (first
      | (rw [if_pos (by rfl)]; refine wp_append_at (.tmp 83) (.tmp 85) 41 (by rfl) 0 60 i0 _ 5 48 Tryz.underlying41 hi hz0 hz1 hz2 (by rfl) (by decide) _ l.length (brksC l) (by rfl) hro.out ⟨w6.heap.size, 0, none⟩ 1 1 _ (by rfl) hsr.out rfl hone.out (by unfold maxLen; omega) (by omega) (Nat.zero_le _) ?_; intro v2 w7 ho7 hg7 hv7; obtain ⟨m1, m2, m3, m4, m5⟩ := hadd.out v2 w7 hg7 ho7 hv7; have j0 : w7.cell? ⟨xb, 0, none⟩ = some (.slice va l.length vc) := m1.cell 0; have j1 : w7.frozen? ⟨xb, 0, none⟩ = false := m1.free 0; have j2 := m1.lt; have j3 := hgk.out w7 m5; have j4 := World.block_lt_of_cell? w7 _ j3; have hfin := Lib.hid (hend.out _ _ m2 m3 m4); obtain ⟨a7, c7, rfl⟩ := own_slice ho7; clear ho7 hg7 hv7 m1 m2 m3 m4 m5))
    all_goals go_wp2_with fail
    all_goals go_ret3
    all_goals exact hfin.out
  · have q2 : decide (n < 1) = false := by simp; omega
    have q3 : decide (2147483648 < n) = false := by simp; omega
    have hq : addS (l.length == 32) 1 n s = (if l.length == 32 then .error (0, 7) else .ok none) := by unfold addS; rw [if_neg (by decide), if_pos rfl, if_neg (by omega)]
    replace hq := Lib.hid hq
    clear hpa k0 k1 kl kh q0 q1
    go_upto_region 12 with fail
    obtain ⟨wX, hwX⟩ : ∃ wX, W1 = wX := ⟨_, rfl⟩
    rw [hwX] at hX1 hb1 hR1 hg1 ⊢
    clear hwX q2 q3
    have hR2 := hR1.out
    have xl2 := hR2.blk.lt
    have gl2 := hX1.out.lt
    have c0 : wX.cell? ⟨xb, 0, none⟩ = some (.slice va l.length vc) := hR2.blk.cell 0
    have hgx : g ≠ xb := by omega
    by_cases hf : l.length = 32
    · have hr := Lib.hid (herr.out 0 7 (by rw [hq.out, hf]; rfl) wX hb1.out)
      have qf : decide ((32 : Int) ≤ (l.length : Int)) = true := by simp; omega
      clear herr
      go_wp2_with fail
      go_ret3
      exact hr.out
    have qf : decide ((32 : Int) ≤ (l.length : Int)) = false := by simp; omega
    have hnf : (l.length == 32) = false := by simpa using hf
    have c1 : wX.cell? ⟨xb, 1, none⟩ = some (.int .i64 last) := hR2.blk.cell 1
    have f1 : wX.frozen? ⟨xb, 1, none⟩ = false := hR2.blk.free 1
    have x0 : wX.cell? ⟨g, 0, none⟩ = some (.int .i64 0) := hX1.out.cell 0
    have y0 : wX.frozen? ⟨g, 0, none⟩ = false := hX1.out.free 0
    have hwl : IntKind.i64.wrap (last + 1) = last + 1 := IntWalk.i64_in _ (by omega)
    have hxg : xb ≠ g := by omega
    have hO6 : Only (fun k => k = xb ∨ k = g) wX ((wX.setCell ⟨xb, 1, none⟩ (.int .i64 (last + 1))).setCell ⟨g, 0, none⟩ (.int .i64 (last + 1))) := ((Only.refl (fun k => k = xb ∨ k = g) wX).setCell (p := ⟨xb, 1, none⟩) (.inl rfl) _).setCell (p := ⟨g, 0, none⟩) (.inr rfl) _
    have hR6 : RefL ((wX.setCell ⟨xb, 1, none⟩ (.int .i64 (last + 1))).setCell ⟨g, 0, none⟩ (.int .i64 (last + 1))) xb (.slice va l.length vc) l (last + 1) :=
      ⟨(hR2.blk.set 1 _).set_other (p := ⟨g, 0, none⟩) hgx _, ownsRow_only hR2.row hO6 (fun r hr => by rintro (rfl | rfl); exact hR2.apart hr; exact hgv hr), hR2.apart⟩
    have hX6 : Blk ((wX.setCell ⟨xb, 1, none⟩ (.int .i64 (last + 1))).setCell ⟨g, 0, none⟩ (.int .i64 (last + 1))) g 60 [.int .i64 (last + 1), .int .i64 1, .int .i64 n, .string ⟨#[]⟩, .bool false] := (hX1.out.set_other (p := ⟨xb, 1, none⟩) hxg _).set 0 _
    have hK6 : Only (RefK xb (.slice va l.length vc)) W ((wX.setCell ⟨xb, 1, none⟩ (.int .i64 (last + 1))).setCell ⟨g, 0, none⟩ (.int .i64 (last + 1))) := by
      have h1 := Only.setCell (S := RefK xb (.slice va l.length vc)) (Only.of_below (by rw [hg]; exact hb1.out)) (p := ⟨xb, 1, none⟩) (.inl rfl) (.int .i64 (last + 1))
      exact h1.trans_new hgn
    replace hR6 := Lib.hid hR6
    replace hX6 := Lib.hid hX6
    replace hK6 := Lib.hid hK6
    replace hR2 := Lib.hid hR2
    clear hO6 herr hf
    go_upto_region 16 with fail
    generalize World.setCell (World.setCell wX _ _) _ _ = w6 at *
    have e0 : w6.cell? ⟨g, 0, none⟩ = some (.int .i64 (last + 1)) := hX6.out.cell 0
    have e1 : w6.cell? ⟨g, 1, none⟩ = some (.int .i64 1) := hX6.out.cell 1
    have e2 : w6.cell? ⟨g, 2, none⟩ = some (.int .i64 n) := hX6.out.cell 2
    have e3 : w6.cell? ⟨g, 3, none⟩ = some (.string ⟨#[]⟩) := hX6.out.cell 3
    have e4 : w6.cell? ⟨g, 4, none⟩ = some (.bool false) := hX6.out.cell 4
    have p0 : w6.cell? ⟨xb, 0, none⟩ = some (.slice va l.length vc) := hR6.out.blk.cell 0
    have lg6 := hX6.out.lt
    have lp6 := hR6.out.blk.lt
    have hbd : Below w6.heap.size w6 w6.drew := bl_drew (Below.refl _ _)
    have hro := Lib.hid ((hR6.out.below hbd).row.alloc (.cells #[.int .i64 (last + 1), .int .i64 1, .int .i64 n, .string ⟨#[]⟩, .bool false] 60))
    have hsr := Lib.hid (fun j u (hj : ([.int .i64 (last + 1), .int .i64 1, .int .i64 n, .string ⟨#[]⟩, .bool false] : List Value)[j]? = some u) => cells_new w6.drew w6.heap.size rfl 60 [.int .i64 (last + 1), .int .i64 1, .int .i64 n, .string ⟨#[]⟩, .bool false] j u hj)
    have hone := Lib.hid (brk_one ⟨last + 1, 1, newN 1 n, newC 1 s, false, none⟩)
    have hadd := Lib.hid (fun v2 w7 (hg : (w6.drew.alloc (.cells #[.int .i64 (last + 1), .int .i64 1, .int .i64 n, .string ⟨#[]⟩, .bool false] 60)).grownBy w7 (Value.slice va l.length vc).ownBlock) ho hv => RefL.add (w := w6.drew) (w2 := w7) (v2 := v2) (hR6.out.below hbd) ⟨last + 1, 1, newN 1 n, newC 1 s, false, none⟩ hg ho hv)
    have hzW := hK6.out.size
    have hend := Lib.hid (fun v8 w8 (h8 : RefL w8 xb v8 (l ++ [⟨last + 1, 1, newN 1 n, newC 1 s, false, none⟩]) (last + 1)) (hO8 : Only (RefK xb (.slice va l.length vc)) w6.drew w8) (hr8 : ∀ r, v8.ownBlock = some r → (Value.slice va l.length vc).ownBlock = some r ∨ w6.drew.heap.size ≤ r) => RAddIs.ok (W := W) (by rw [hq.out, hnf]; rfl) h8 ((hK6.out.drew).trans hO8) (fun r hr => (hr8 r hr).imp id (fun h => Nat.le_trans hzW h)))
    replace hzW := Lib.hid hzW
    have hgk := Lib.hid (fun (w7 : World) (h7 : ∀ b, b < w6.drew.heap.size → (Value.slice va l.length vc).ownBlock ≠ some b → w7.heap[b]? = w6.drew.heap[b]?) => (World.cell?_of_block (a := ⟨g, 0, none⟩) (h7 g lg6 hgv)).trans e0)
    clear hX6 hR6 hR1 hX1 hK6 hbd hwl c0 c1 f1 x0 y0 hR2 hnf
    go_region_law (first
      | (rw [if_pos (by rfl)]; refine wp_append_at (.tmp 83) (.tmp 85) 41 (by rfl) 0 60 i0 _ 5 48 Tryz.underlying41 hi hz0 hz1 hz2 (by rfl) (by decide) _ l.length (brksC l) (by rfl) hro.out ⟨w6.heap.size, 0, none⟩ 1 1 _ (by rfl) hsr.out rfl hone.out (by unfold maxLen; omega) (by omega) (Nat.zero_le _) ?_; intro v2 w7 ho7 hg7 hv7; obtain ⟨m1, m2, m3, m4, m5⟩ := hadd.out v2 w7 hg7 ho7 hv7; have j0 : w7.cell? ⟨xb, 0, none⟩ = some (.slice va l.length vc) := m1.cell 0; have j1 : w7.frozen? ⟨xb, 0, none⟩ = false := m1.free 0; have j2 := m1.lt; have j3 := hgk.out w7 m5; have j4 := World.block_lt_of_cell? w7 _ j3; have hfin := Lib.hid (hend.out _ _ m2 m3 m4); obtain ⟨a7, c7, rfl⟩ := own_slice ho7; clear ho7 hg7 hv7 m1 m2 m3 m4 m5))
    all_goals go_wp2_with fail
    all_goals go_ret3
    all_goals exact hfin.out
  · clear k0 k1 kl kh q0 q1
    have hpw := hpa.out W1
    cases hps : CM.parseS s with
    | error e =>
      obtain ⟨a, x⟩ := e
      have hx0 : (x != 0) = true := by have := CM.parse_er hps; simpa using this
      have hq : addS (l.length == 32) 2 n s = .error ((a : Int), x) := by unfold addS; rw [if_neg (by decide), if_neg (by decide), if_pos rfl, hps]
      have cB : Calls Tryz.prog 25 #[strV s] W1 fun e w2 => ∃ (what : List UInt8) (la : Option Addr) (ln lc : Nat) (sg : List UInt8) (n : Int) (ba : Option Addr) (bn bc : Nat), e = .returned (.tuple #[.agg #[strV what, .slice la ln lc, strV sg, .int .i64 n, .slice ba bn bc], .int .i64 (a : Int), .int .i64 x]) ∧ Below W1.heap.size W1 w2 := by
        rw [hps] at hpw
        refine hpw.mono ?_
        rintro e w2 ⟨hb, v, a, y, rfl, ⟨what, la, ln, lc, sg, n, ba, bn, bc, rfl⟩, rfl, rfl, _⟩
        exact ⟨_, _, _, _, _, _, _, _, _, rfl, hb⟩
      have hr := Lib.hid (fun w' (hb : Below W1.heap.size W1 w') => herr.out (a : Int) x hq w' (hb1.out.trans (hb.mono (by omega))))
      replace cB := Lib.hid cB
      clear herr hpa hpw hps hq
      go_wp2_with (go_at_call 25; (with_reducible refine cB.out.mono ?_); rintro e w5 ⟨_, _, _, _, _, _, _, _, _, rfl, hb5⟩)
      go_ret3
      exact hr.out _ (bl_alloc hb5 _)
    | ok phi =>
      have hq : addS (l.length == 32) 2 n s = (if l.length == 32 then .error (0, 7) else .ok (some phi)) := by unfold addS; rw [if_neg (by decide), if_neg (by decide), if_pos rfl, hps]
      have cB : Calls Tryz.prog 25 #[strV s] W1 fun e w2 => ∃ (what : List UInt8) (la : Option Addr) (ln lc : Nat) (sg : List UInt8) (n : Int) (ba : Option Addr) (bn bc : Nat), e = .returned (.tuple #[.agg #[strV what, .slice la ln lc, strV sg, .int .i64 n, .slice ba bn bc], .int .i64 0, .int .i64 0]) ∧ Below W1.heap.size W1 w2 := by
        rw [hps] at hpw
        refine hpw.mono ?_
        rintro e w2 ⟨hb, v, a, y, rfl, ⟨what, la, ln, lc, sg, n, ba, bn, bc, rfl⟩, rfl, rfl, _⟩
        exact ⟨_, _, _, _, _, _, _, _, _, rfl, hb⟩
      have hw := Lib.hid (fun w5 (hb5 : Below W1.heap.size W1 w5) => (⟨(hX1.out.below hb5).cell 2, (hX1.out.below hb5).free 2, (hX1.out.below hb5).cell 3, (hX1.out.below hb5).free 3, (hX1.out.below hb5).lt⟩ : w5.cell? ⟨g, 2, none⟩ = some (.int .i64 n) ∧ w5.frozen? ⟨g, 2, none⟩ = false ∧ w5.cell? ⟨g, 3, none⟩ = some (.string ⟨#[]⟩) ∧ w5.frozen? ⟨g, 3, none⟩ = false ∧ g < w5.heap.size))
      have hmk := Lib.hid (fun w5 (hb5 : Below W1.heap.size W1 w5) => (⟨((hX1.out.below hb5).set 2 (.int .i64 0)).set 3 (strV s), ((hb1.out.trans (hb5.mono (by omega))).setCell (p := ⟨g, 2, none⟩) (Nat.le_refl _) (.int .i64 0)).setCell (p := ⟨g, 3, none⟩) (Nat.le_refl _) (strV s), ((hR1.out.below hb5).only (((Only.refl (fun k => k = g) w5).setCell (p := ⟨g, 2, none⟩) rfl (.int .i64 0)).setCell (p := ⟨g, 3, none⟩) rfl (strV s)) (by show ¬ xb = g; omega) (fun r hr e => hgv (by have e' : r = g := e; rw [← e']; exact hr)))⟩ : Blk ((w5.setCell ⟨g, 2, none⟩ (.int .i64 0)).setCell ⟨g, 3, none⟩ (strV s)) g 60 [.int .i64 0, .int .i64 2, .int .i64 0, strV s, .bool false] ∧ Below g W ((w5.setCell ⟨g, 2, none⟩ (.int .i64 0)).setCell ⟨g, 3, none⟩ (strV s)) ∧ RefL ((w5.setCell ⟨g, 2, none⟩ (.int .i64 0)).setCell ⟨g, 3, none⟩ (strV s)) xb (.slice va l.length vc) l last))
      replace hq := Lib.hid hq
      replace cB := Lib.hid cB
      clear hpa hpw hps hR1 hX1 hb1 hg1
      go_upto_region 12 with (go_at_call 25; (with_reducible refine cB.out.mono ?_); rintro e w5 ⟨what, la, ln, lc, sg, nn, ba, bn, bc, rfl, hb5⟩; have hb6 := bl_alloc hb5 (.cells #[strV what, .slice la ln lc, strV sg, .int .i64 nn, .slice ba bn bc] 81); obtain ⟨k2, k3, k4, k5, k6⟩ := hw.out _ hb5)
      have hmk5 := hmk.out _ hb5
      have hmk6 := And.intro (hmk5.1.alloc (.cells #[strV what, .slice la ln lc, strV sg, .int .i64 nn, .slice ba bn bc] 81)) (And.intro (hmk5.2.1.alloc (Nat.le_of_lt hmk5.1.lt) (.cells #[strV what, .slice la ln lc, strV sg, .int .i64 nn, .slice ba bn bc] 81)) (hmk5.2.2.below (bl_alloc (Below.refl _ _) (.cells #[strV what, .slice la ln lc, strV sg, .int .i64 nn, .slice ba bn bc] 81))))
      obtain ⟨wX, hwX⟩ : ∃ wX, (((w5.setCell ⟨g, 2, none⟩ (.int .i64 0)).setCell ⟨g, 3, none⟩ (strV s)).alloc (.cells #[strV what, .slice la ln lc, strV sg, .int .i64 nn, .slice ba bn bc] 81)) = wX := ⟨_, rfl⟩
      rw [hwX] at hmk6 ⊢
      obtain ⟨hX1, hb1, hR1⟩ := hmk6
      replace hX1 := Lib.hid hX1
      replace hb1 := Lib.hid hb1
      replace hR1 := Lib.hid hR1
      clear hwX hmk hmk5 hw hb5 hb6 k2 k3 k4 k5 k6 cB
      have hR2 := hR1.out
      have xl2 := hR2.blk.lt
      have gl2 := hX1.out.lt
      have c0 : wX.cell? ⟨xb, 0, none⟩ = some (.slice va l.length vc) := hR2.blk.cell 0
      have hgx : g ≠ xb := by omega
      by_cases hf : l.length = 32
      · have hr := Lib.hid (herr.out 0 7 (by rw [hq.out, hf]; rfl) wX hb1.out)
        have qf : decide ((32 : Int) ≤ (l.length : Int)) = true := by simp; omega
        clear herr
        go_wp2_with fail
        go_ret3
        exact hr.out
      have qf : decide ((32 : Int) ≤ (l.length : Int)) = false := by simp; omega
      have hnf : (l.length == 32) = false := by simpa using hf
      have c1 : wX.cell? ⟨xb, 1, none⟩ = some (.int .i64 last) := hR2.blk.cell 1
      have f1 : wX.frozen? ⟨xb, 1, none⟩ = false := hR2.blk.free 1
      have x0 : wX.cell? ⟨g, 0, none⟩ = some (.int .i64 0) := hX1.out.cell 0
      have y0 : wX.frozen? ⟨g, 0, none⟩ = false := hX1.out.free 0
      have hwl : IntKind.i64.wrap (last + 1) = last + 1 := IntWalk.i64_in _ (by omega)
      have hxg : xb ≠ g := by omega
      have hO6 : Only (fun k => k = xb ∨ k = g) wX ((wX.setCell ⟨xb, 1, none⟩ (.int .i64 (last + 1))).setCell ⟨g, 0, none⟩ (.int .i64 (last + 1))) := ((Only.refl (fun k => k = xb ∨ k = g) wX).setCell (p := ⟨xb, 1, none⟩) (.inl rfl) _).setCell (p := ⟨g, 0, none⟩) (.inr rfl) _
      have hR6 : RefL ((wX.setCell ⟨xb, 1, none⟩ (.int .i64 (last + 1))).setCell ⟨g, 0, none⟩ (.int .i64 (last + 1))) xb (.slice va l.length vc) l (last + 1) :=
        ⟨(hR2.blk.set 1 _).set_other (p := ⟨g, 0, none⟩) hgx _, ownsRow_only hR2.row hO6 (fun r hr => by rintro (rfl | rfl); exact hR2.apart hr; exact hgv hr), hR2.apart⟩
      have hX6 : Blk ((wX.setCell ⟨xb, 1, none⟩ (.int .i64 (last + 1))).setCell ⟨g, 0, none⟩ (.int .i64 (last + 1))) g 60 [.int .i64 (last + 1), .int .i64 2, .int .i64 0, strV s, .bool false] := (hX1.out.set_other (p := ⟨xb, 1, none⟩) hxg _).set 0 _
      have hK6 : Only (RefK xb (.slice va l.length vc)) W ((wX.setCell ⟨xb, 1, none⟩ (.int .i64 (last + 1))).setCell ⟨g, 0, none⟩ (.int .i64 (last + 1))) := by
        have h1 := Only.setCell (S := RefK xb (.slice va l.length vc)) (Only.of_below (by rw [hg]; exact hb1.out)) (p := ⟨xb, 1, none⟩) (.inl rfl) (.int .i64 (last + 1))
        exact h1.trans_new hgn
      replace hR6 := Lib.hid hR6
      replace hX6 := Lib.hid hX6
      replace hK6 := Lib.hid hK6
      replace hR2 := Lib.hid hR2
      clear hO6 herr hf
      go_upto_region 16 with fail
      generalize World.setCell (World.setCell wX _ _) _ _ = w6 at *
      have e0 : w6.cell? ⟨g, 0, none⟩ = some (.int .i64 (last + 1)) := hX6.out.cell 0
      have e1 : w6.cell? ⟨g, 1, none⟩ = some (.int .i64 2) := hX6.out.cell 1
      have e2 : w6.cell? ⟨g, 2, none⟩ = some (.int .i64 0) := hX6.out.cell 2
      have e3 : w6.cell? ⟨g, 3, none⟩ = some (strV s) := hX6.out.cell 3
      have e4 : w6.cell? ⟨g, 4, none⟩ = some (.bool false) := hX6.out.cell 4
      have p0 : w6.cell? ⟨xb, 0, none⟩ = some (.slice va l.length vc) := hR6.out.blk.cell 0
      have lg6 := hX6.out.lt
      have lp6 := hR6.out.blk.lt
      have hbd : Below w6.heap.size w6 w6.drew := bl_drew (Below.refl _ _)
      have hro := Lib.hid ((hR6.out.below hbd).row.alloc (.cells #[.int .i64 (last + 1), .int .i64 2, .int .i64 0, strV s, .bool false] 60))
      have hsr := Lib.hid (fun j u (hj : ([.int .i64 (last + 1), .int .i64 2, .int .i64 0, strV s, .bool false] : List Value)[j]? = some u) => cells_new w6.drew w6.heap.size rfl 60 [.int .i64 (last + 1), .int .i64 2, .int .i64 0, strV s, .bool false] j u hj)
      have hone := Lib.hid (brk_one ⟨last + 1, 2, newN 2 n, newC 2 s, false, none⟩)
      have hadd := Lib.hid (fun v2 w7 (hg : (w6.drew.alloc (.cells #[.int .i64 (last + 1), .int .i64 2, .int .i64 0, strV s, .bool false] 60)).grownBy w7 (Value.slice va l.length vc).ownBlock) ho hv => RefL.add (w := w6.drew) (w2 := w7) (v2 := v2) (hR6.out.below hbd) ⟨last + 1, 2, newN 2 n, newC 2 s, false, none⟩ hg ho hv)
      have hzW := hK6.out.size
      have hend := Lib.hid (fun v8 w8 (h8 : RefL w8 xb v8 (l ++ [⟨last + 1, 2, newN 2 n, newC 2 s, false, none⟩]) (last + 1)) (hO8 : Only (RefK xb (.slice va l.length vc)) w6.drew w8) (hr8 : ∀ r, v8.ownBlock = some r → (Value.slice va l.length vc).ownBlock = some r ∨ w6.drew.heap.size ≤ r) => RAddIs.ok (W := W) (by rw [hq.out, hnf]; rfl) h8 ((hK6.out.drew).trans hO8) (fun r hr => (hr8 r hr).imp id (fun h => Nat.le_trans hzW h)))
      replace hzW := Lib.hid hzW
      have hgk := Lib.hid (fun (w7 : World) (h7 : ∀ b, b < w6.drew.heap.size → (Value.slice va l.length vc).ownBlock ≠ some b → w7.heap[b]? = w6.drew.heap[b]?) => (World.cell?_of_block (a := ⟨g, 0, none⟩) (h7 g lg6 hgv)).trans e0)
      clear hX6 hR6 hR1 hX1 hK6 hbd hwl c0 c1 f1 x0 y0 hR2 hnf
      go_region_law (first
        | (rw [if_pos (by rfl)]; refine wp_append_at (.tmp 83) (.tmp 85) 41 (by rfl) 0 60 i0 _ 5 48 Tryz.underlying41 hi hz0 hz1 hz2 (by rfl) (by decide) _ l.length (brksC l) (by rfl) hro.out ⟨w6.heap.size, 0, none⟩ 1 1 _ (by rfl) hsr.out rfl hone.out (by unfold maxLen; omega) (by omega) (Nat.zero_le _) ?_; intro v2 w7 ho7 hg7 hv7; obtain ⟨m1, m2, m3, m4, m5⟩ := hadd.out v2 w7 hg7 ho7 hv7; have j0 : w7.cell? ⟨xb, 0, none⟩ = some (.slice va l.length vc) := m1.cell 0; have j1 : w7.frozen? ⟨xb, 0, none⟩ = false := m1.free 0; have j2 := m1.lt; have j3 := hgk.out w7 m5; have j4 := World.block_lt_of_cell? w7 _ j3; have hfin := Lib.hid (hend.out _ _ m2 m3 m4); obtain ⟨a7, c7, rfl⟩ := own_slice ho7; clear ho7 hg7 hv7 m1 m2 m3 m4 m5))
      all_goals go_wp2_with fail
      all_goals go_ret3
      all_goals exact hfin.out
end Go.Proofs.YtcjcflmnghhbaaaGreat
/-
  The reference's Hits; of chapter 28. (Printed by gen_stoh.py.)
  Conditions: as each theorem states them.
-/
namespace Go.Proofs.YtcjcflmnghhbaaaGreat
open Go.RowKit
set_option linter.unusedVariables false
set_option linter.unusedSimpArgs false
noncomputable def ndLoad2 (a : Addr) : Sem Value := loadVar 81 a
theorem load_nd2 (a : Addr) : loadVar 81 a = ndLoad2 a := rfl
theorem ndLoad2_is {w : World} {g : Nat} {what : List UInt8} {la : Option Addr} {ln lc : Nat} {sign : List UInt8} {n : Int} {ba : Option Addr} {bn bc : Nat} (h : Blk w g 81 (nodeC what la ln lc sign n ba bn bc)) : (ndLoad2 ⟨g, 0, none⟩).run Tryz.prog w = .ok (.agg (nodeC what la ln lc sign n ba bn bc).toArray) w := by
  have n0 : w.cell? ⟨g, 0, none⟩ = some (strV what) := h.cell 0
  have n1 : w.cell? ⟨g, 1, none⟩ = some (.slice la ln lc) := h.cell 1
  have n2 : w.cell? ⟨g, 2, none⟩ = some (strV sign) := h.cell 2
  have n3 : w.cell? ⟨g, 3, none⟩ = some (.int .i64 n) := h.cell 3
  have n4 : w.cell? ⟨g, 4, none⟩ = some (.slice ba bn bc) := h.cell 4
  unfold ndLoad2 nodeC
  simp [go_sem, loadVar, n0, n1, n2, n3, n4]
attribute [local go_sem ↓] load_st load_nd2
open CM (Sv)
/-- a breakpoint is as Add makes it -/
def OkS (x : Stp) : Prop := (x.kind = 0 ∨ x.kind = 1) ∨ (x.kind = 2 ∧ ∃ phi, x.phi = some phi ∧ CM.parseS x.cond = .ok phi ∧ x.cond.length ≤ 100)
set_option maxHeartbeats 8000000 in
set_option maxRecDepth 100000 in
theorem rhits_any {W : World} {xb : Nat} {rv : Value} {l : List Stp} {last : Int} {s1 s2 : StC} {v1 v2 : Sv} (h : RefL W xb rv l last) (hl : l.length ≤ 1000000) (hok : ∀ x ∈ l, OkS x) (h1 : StSv W s1 v1) (h2 : StSv W s2 v2) :
    Calls Tryz.prog 17 #[.pointer (some ⟨xb, 0, none⟩), .agg s1.cells.toArray, .agg s2.cells.toArray] W fun e w' => ∃ v, e = .returned v ∧ w'.ownsRow W.heap.size 3 1 v (hitsS l v1 v2).length ((hitsS l v1 v2).map (Value.int .i64)) ∧ Below W.heap.size W w' := by
  obtain ⟨i0, hi0, hz0, hz1, hz2⟩ := info_parts infoI
  have hB1 : Blk ((W.alloc (.cells s1.cells.toArray 35)).alloc (.cells s2.cells.toArray 35)) W.heap.size 35 s1.cells := (Blk.new W _ _).alloc _
  have hB2 : Blk ((W.alloc (.cells s1.cells.toArray 35)).alloc (.cells s2.cells.toArray 35)) (W.heap.size + 1) 35 s2.cells := by
    have := (Blk.new (W.alloc (.cells s1.cells.toArray 35)) 35 s2.cells)
    rw [size_alloc] at this; exact this
  have hb0 : Below W.heap.size W ((W.alloc (.cells s1.cells.toArray 35)).alloc (.cells s2.cells.toArray 35)) := bl_alloc (bl_alloc (Below.refl _ _) _) _
  obtain ⟨W2, hW2⟩ : ∃ W2, (W.alloc (.cells s1.cells.toArray 35)).alloc (.cells s2.cells.toArray 35) = W2 := ⟨_, rfl⟩
  rw [hW2] at hB1 hB2 hb0
  have q1 : v1.line = s1.line := h1.line
  have q2 : v2.line = s2.line := h2.line
  have q3 : v2.phase = s2.phase := h2.phase
  have q4 : v2.pc = s2.pc := h2.pc
  obtain ⟨C1, hC1⟩ : ∃ C, s1.cells.toArray = C := ⟨_, rfl⟩
  obtain ⟨C2, hC2⟩ : ∃ C, s2.cells.toArray = C := ⟨_, rfl⟩
  have hLd := Lib.hid (fun w' (hw : Below W2.heap.size W2 w') => (⟨hC1 ▸ stLoad_is s1 (hB1.below hw), hC2 ▸ stLoad_is s2 (hB2.below hw), by rw [q1]; exact (hB1.below hw).cell 3, by rw [q2]; exact (hB2.below hw).cell 3, by rw [q3]; exact (hB2.below hw).cell 15, by rw [q4]; exact (hB2.below hw).cell 16, (hB1.below hw).lt, (hB2.below hw).lt⟩ : (stLoad ⟨W.heap.size, 0, none⟩).run Tryz.prog w' = .ok (.agg C1) w' ∧ (stLoad ⟨W.heap.size + 1, 0, none⟩).run Tryz.prog w' = .ok (.agg C2) w' ∧
    w'.cell? ⟨W.heap.size, 3, none⟩ = some (.int .i64 v1.line) ∧ w'.cell? ⟨W.heap.size + 1, 3, none⟩ = some (.int .i64 v2.line) ∧ w'.cell? ⟨W.heap.size + 1, 15, none⟩ = some (.int .i64 v2.phase) ∧ w'.cell? ⟨W.heap.size + 1, 16, none⟩ = some (.int .i64 v2.pc) ∧ W.heap.size < w'.heap.size ∧ W.heap.size + 1 < w'.heap.size))
  have hpr := Lib.hid (fun (s : List UInt8) (hs : s.length ≤ 100) w' => rparse_any s (by omega) w')
  have hho := Lib.hid (fun lo hi v phi w' (hN : NodeIs lo hi v phi w') (hw : Below W2.heap.size W2 w') => (by
    have := hN.2.2 w' (KeepI.refl lo hi w') s1 s2 v1 v2 (h1.below (bl_trans hb0 hw)) (h2.below (bl_trans hb0 hw))
    rw [hC1, hC2] at this
    exact this : Calls Tryz.prog 27 #[.agg v.toArray, .agg C1, .agg C2] w' fun e w2 => e = .returned (.bool (phi v1 v2)) ∧ Below w'.heap.size w' w2))
  have hR2 := h.below hb0
  obtain ⟨va, vc, rfl⟩ := own_slice hR2.row
  have hx := Lib.hid (fun wr (hb : Below W2.heap.size W2 wr) => (⟨(hR2.below hb).blk.cell 0, (hR2.below hb).blk.lt⟩ : wr.cell? ⟨xb, 0, none⟩ = some (.slice va l.length vc) ∧ xb < wr.heap.size))
  have hel := Lib.hid (fun i (hi : i < l.length) wr (hb : Below W2.heap.size W2 wr) => (hR2.below hb).elem hi)
  replace hok := Lib.hid hok
  rw [hC1, hC2] at hW2 ⊢
  have hsz := hb0.size
  replace hb0 := Lib.hid hb0
  obtain ⟨bw, hbw⟩ : ∃ bw, W.heap.size = bw := ⟨_, rfl⟩
  rw [hbw] at hLd
  replace hW2 := Lib.hid hW2
  clear h h1 h2 hB1 hB2 hR2 hC1 hC2 q1 q2 q3 q4
  go_enter Tryz.func17, Tryz.ntmps17
  go_upto_region 1 with fail
  rw [hW2.out]
  obtain ⟨y0, y1⟩ := hx.out W2 (Below.refl _ _)
  go_wp2_with fail
  clear y0 y1
  go_loopg [7, 8] l.length (fun gh o v wr => ∃ i : Nat, gh = l.length - i ∧ v = .int .i64 (i : Int) ∧ i ≤ l.length ∧ Hid (wr.ownsRow W2.heap.size 3 1 o (hitsS (l.take i) v1 v2).length ((hitsS (l.take i) v1 v2).map (Value.int .i64))) ∧ Hid (Below W2.heap.size W2 wr))
  case atStart => exact ⟨0, by omega, rfl, Nat.zero_le _, Lib.hid (World.ownsRow_nil _ _ _ _), Lib.hid (Below.refl _ _)⟩
  case round =>
    obtain ⟨i, rfl, rfl, hi, ho, hbr⟩ := hrel
    obtain ⟨y0, y1⟩ := hx.out wr hbr.out
    by_cases hlt : i < l.length
    rotate_left
    · obtain rfl : i = l.length := by omega
      rw [List.take_length] at ho
      go_wp2_with fail
      go_ret
      exact ⟨_, rfl, ownsRow_base ho.out hb0.out.size, bl_trans hb0.out hbr.out⟩
    obtain ⟨g, cap, he, hg3, hc⟩ := hel.out i hlt wr hbr.out
    obtain ⟨rfl, rfl⟩ : va = some ⟨g, 0, none⟩ ∧ vc = cap := by simpa using he
    have c0 := (hc i hlt 0 _ rfl).1
    have c1 := (hc i hlt 1 _ rfl).1
    have c2 := (hc i hlt 2 _ rfl).1
    have c3 := (hc i hlt 3 _ rfl).1
    have c4 := (hc i hlt 4 _ rfl).1
    rw [Nat.add_zero] at c0
    have hsn := hitsS_snoc (was := v1) (now := v2) hlt
    have hln := hitsS_len (l.take i) v1 v2
    have hln2 : (l.take i).length ≤ i := List.length_take_le _ _
    have hkx := hok.out l[i] (List.getElem_mem hlt)
    obtain ⟨x, hxe⟩ : ∃ x, l[i] = x := ⟨_, rfl⟩
    rw [hxe] at c0 c1 c2 c3 c4 hsn hkx
    have z0 : (0 : Int) ≤ (i : Int) := by omega
    have z1 : (i : Int) < (l.length : Int) := by omega
    obtain ⟨oa, oc, rfl⟩ := own_slice ho.out
    have hAl : ∃ wA, wr.alloc (.cells x.brk.toArray 60) = wA ∧ Blk wA wr.heap.size 60 x.brk ∧ Below wr.heap.size wr wA := ⟨_, rfl, Blk.new wr _ _, bl_alloc (Below.refl _ _) _⟩
    obtain ⟨wA, hwA, hbx, hbA⟩ := hAl
    have m1 := bl_trans hbr.out hbA
    have m2 := Lib.hid (ownsRow_below ho.out hbA)
    obtain ⟨L1, L2, d1, d2, d3, d4, d5, d6⟩ := hLd.out wA m1
    obtain ⟨gb, hgb⟩ : ∃ gb, wr.heap.size = gb := ⟨_, rfl⟩
    rw [hgb] at hbx
    have e0 : wA.cell? ⟨gb, 0, none⟩ = some (.int .i64 x.id) := hbx.cell 0
    have e1 : wA.cell? ⟨gb, 1, none⟩ = some (.int .i64 x.kind) := hbx.cell 1
    have e2 : wA.cell? ⟨gb, 2, none⟩ = some (.int .i64 x.n) := hbx.cell 2
    have e3 : wA.cell? ⟨gb, 3, none⟩ = some (strV x.cond) := hbx.cell 3
    have e4 : wA.cell? ⟨gb, 4, none⟩ = some (.bool x.off) := hbx.cell 4
    have e5 := hbx.lt
    have hbk := Lib.hid (fun X (hX : Below wA.heap.size wA X) => (⟨(hbx.below hX).cell 0, (hbx.below hX).lt, bl_trans m1 hX, ownsRow_below m2.out hX⟩ : X.cell? ⟨gb, 0, none⟩ = some (.int .i64 x.id) ∧ gb < X.heap.size ∧ Below W2.heap.size W2 X ∧ X.ownsRow W2.heap.size 3 1 (.slice oa (hitsS (l.take i) v1 v2).length oc) (hitsS (l.take i) v1 v2).length ((hitsS (l.take i) v1 v2).map (Value.int .i64))))
    unfold Stp.brk at hwA
    replace hsn := Lib.hid hsn
    replace hxe := Lib.hid hxe
    replace m1 := Lib.hid m1
    replace hbA := Lib.hid hbA
    clear hc he hbx ho
    go_upto_region 6 with fail
    clear c0 c1 c2 c3 c4 y0 y1 hwA
    replace hgb := Lib.hid hgb
    by_cases hoff : x.off = true
    · have hB : Hid (hitS x v1 v2 = false) := Lib.hid (by unfold hitS; rw [if_pos hoff])
      rw [hoff] at e4
      go_wp2_with fail
      go_roundg (l.length - (i + 1))
      case measure => omega
      case rel => exact ⟨i + 1, rfl, by go_num, by omega, Lib.hid (by rw [hsn.out, hB.out, if_neg (by simp), List.append_nil]; exact m2.out), Lib.hid m1.out⟩
    have hoff' : x.off = false := by simpa using hoff
    rw [hoff'] at e4
    rcases hkx with (k0 | k1) | ⟨k2, phi, hphi, hps, hcl⟩
    · have hE : hitS x v1 v2 = (v2.phase == 1 && v2.pc == x.n) := by unfold hitS; rw [if_neg hoff, if_pos k0]
      rw [k0] at e1
      by_cases hp : (v2.phase == 1) = true
      · by_cases hq : (v2.pc == x.n) = true
        · have hB : Hid (hitS x v1 v2 = true) := Lib.hid (by rw [hE, hp, hq]; rfl)
          clear hE
          go_upto_region 12 with fail
          obtain ⟨w4, hw4⟩ : ∃ w4, wA = w4 := ⟨_, rfl⟩
          rw [hw4] at m1 m2 e0 e5 ⊢
          have m1' := m1.out
          have hsr := Lib.hid (src_new w4 3 [.int .i64 x.id] w4.heap.size rfl)
          have ho2 := Lib.hid (m2.out.alloc (.cells [.int .i64 x.id].toArray 3))
          have hbs : W2.heap.size ≤ (w4.alloc (.cells [.int .i64 x.id].toArray 3)).heap.size := by have := m1'.size; simp; omega
          have hgr := Lib.hid (fun w3 (hg : (w4.alloc (.cells [.int .i64 x.id].toArray 3)).grownBy w3 (Value.slice oa (hitsS (l.take i) v1 v2).length oc).ownBlock) => (bl_alloc m1' (.cells [.int .i64 x.id].toArray 3)).grown hg hbs (fun j hj => (ho2.out.lt j hj).1))
          have hone := Lib.hid (one_int x.id)
          replace hbs := Lib.hid hbs
          clear m2 m1'
          go_wp2_with (at_builtin; refine wpList_append_src _ (by rfl) (.tmp 83) (.tmp 86) 57 (by rfl) W2.heap.size 3 i0 _ 1 8 Tryz.underlying57 hi0 hz0 hz1 hz2 (by rfl) (by decide) _ _ _ (by rfl) ho2.out _ 1 _ (by rfl) hsr.out rfl hone.out (by unfold maxLen; omega) (by omega) hbs.out ?_; intro v2' w5 ho3 hg3; have hb5 := hgr.out _ hg3; replace ho3 := Lib.hid ho3; replace hg3 := Lib.hid hg3)
          go_roundg (l.length - (i + 1))
          case measure => omega
          case rel => exact ⟨i + 1, rfl, by go_num, by omega, Lib.hid (by rw [hsn.out, hB.out]; simp only [if_true, List.length_append, List.map_append]; exact ho3.out), Lib.hid hb5⟩
        · replace hq : (v2.pc == x.n) = false := by simpa using hq
          have hB : Hid (hitS x v1 v2 = false) := Lib.hid (by rw [hE, hp, hq]; rfl)
          clear hE
          go_wp2_with fail
          go_roundg (l.length - (i + 1))
          case measure => omega
          case rel => exact ⟨i + 1, rfl, by go_num, by omega, Lib.hid (by rw [hsn.out, hB.out, if_neg (by simp), List.append_nil]; exact m2.out), Lib.hid m1.out⟩
      · replace hp : (v2.phase == 1) = false := by simpa using hp
        have hB : Hid (hitS x v1 v2 = false) := Lib.hid (by rw [hE, hp]; rfl)
        clear hE
        go_wp2_with fail
        go_roundg (l.length - (i + 1))
        case measure => omega
        case rel => exact ⟨i + 1, rfl, by go_num, by omega, Lib.hid (by rw [hsn.out, hB.out, if_neg (by simp), List.append_nil]; exact m2.out), Lib.hid m1.out⟩
    · have hE : hitS x v1 v2 = (v2.line == x.n && v1.line != x.n) := by unfold hitS; rw [if_neg hoff, if_neg (by omega), if_pos k1]
      rw [k1] at e1
      by_cases hp : (v2.line == x.n) = true
      · by_cases hq : (v1.line != x.n) = true
        · have hB : Hid (hitS x v1 v2 = true) := Lib.hid (by rw [hE, hp, hq]; rfl)
          clear hE
          go_upto_region 12 with fail
          obtain ⟨w4, hw4⟩ : ∃ w4, wA = w4 := ⟨_, rfl⟩
          rw [hw4] at m1 m2 e0 e5 ⊢
          have m1' := m1.out
          have hsr := Lib.hid (src_new w4 3 [.int .i64 x.id] w4.heap.size rfl)
          have ho2 := Lib.hid (m2.out.alloc (.cells [.int .i64 x.id].toArray 3))
          have hbs : W2.heap.size ≤ (w4.alloc (.cells [.int .i64 x.id].toArray 3)).heap.size := by have := m1'.size; simp; omega
          have hgr := Lib.hid (fun w3 (hg : (w4.alloc (.cells [.int .i64 x.id].toArray 3)).grownBy w3 (Value.slice oa (hitsS (l.take i) v1 v2).length oc).ownBlock) => (bl_alloc m1' (.cells [.int .i64 x.id].toArray 3)).grown hg hbs (fun j hj => (ho2.out.lt j hj).1))
          have hone := Lib.hid (one_int x.id)
          replace hbs := Lib.hid hbs
          clear m2 m1'
          go_wp2_with (at_builtin; refine wpList_append_src _ (by rfl) (.tmp 83) (.tmp 86) 57 (by rfl) W2.heap.size 3 i0 _ 1 8 Tryz.underlying57 hi0 hz0 hz1 hz2 (by rfl) (by decide) _ _ _ (by rfl) ho2.out _ 1 _ (by rfl) hsr.out rfl hone.out (by unfold maxLen; omega) (by omega) hbs.out ?_; intro v2' w5 ho3 hg3; have hb5 := hgr.out _ hg3; replace ho3 := Lib.hid ho3; replace hg3 := Lib.hid hg3)
          go_roundg (l.length - (i + 1))
          case measure => omega
          case rel => exact ⟨i + 1, rfl, by go_num, by omega, Lib.hid (by rw [hsn.out, hB.out]; simp only [if_true, List.length_append, List.map_append]; exact ho3.out), Lib.hid hb5⟩
        · replace hq : (v1.line != x.n) = false := by simpa using hq
          have hB : Hid (hitS x v1 v2 = false) := Lib.hid (by rw [hE, hp, hq]; rfl)
          clear hE
          go_wp2_with fail
          go_roundg (l.length - (i + 1))
          case measure => omega
          case rel => exact ⟨i + 1, rfl, by go_num, by omega, Lib.hid (by rw [hsn.out, hB.out, if_neg (by simp), List.append_nil]; exact m2.out), Lib.hid m1.out⟩
      · replace hp : (v2.line == x.n) = false := by simpa using hp
        have hB : Hid (hitS x v1 v2 = false) := Lib.hid (by rw [hE, hp]; rfl)
        clear hE
        go_wp2_with fail
        go_roundg (l.length - (i + 1))
        case measure => omega
        case rel => exact ⟨i + 1, rfl, by go_num, by omega, Lib.hid (by rw [hsn.out, hB.out, if_neg (by simp), List.append_nil]; exact m2.out), Lib.hid m1.out⟩
    · have hE : hitS x v1 v2 = phi v1 v2 := by unfold hitS; rw [if_neg hoff, if_neg (by omega), if_neg (by omega), hphi]
      rw [k2] at e1
      have hpw := hpr.out x.cond hcl wA
      rw [hps] at hpw
      have cB : Calls Tryz.prog 25 #[strV x.cond] wA fun e w2 => ∃ (what : List UInt8) (la : Option Addr) (ln lc : Nat) (sg : List UInt8) (n : Int) (ba : Option Addr) (bn bc : Nat), e = .returned (.tuple #[.agg #[strV what, .slice la ln lc, strV sg, .int .i64 n, .slice ba bn bc], .int .i64 0, .int .i64 0]) ∧ Below wA.heap.size wA w2 ∧ NodeIs wA.heap.size w2.heap.size (nodeC what la ln lc sg n ba bn bc) phi w2 := by
        refine hpw.mono ?_
        rintro e w2 ⟨hb, v, a, y, rfl, ⟨what, la, ln, lc, sg, n, ba, bn, bc, rfl⟩, rfl, rfl, hN⟩
        exact ⟨_, _, _, _, _, _, _, _, _, rfl, hb, hN⟩
      replace cB := Lib.hid cB
      obtain ⟨B, hBB⟩ : ∃ B, phi v1 v2 = B := ⟨_, rfl⟩
      rw [hBB] at hE
      have hho2 := Lib.hid (fun what la ln lc sg n ba bn bc w5 (hb5 : Below wA.heap.size wA w5) (hN : NodeIs wA.heap.size w5.heap.size (nodeC what la ln lc sg n ba bn bc) phi w5) => (by
        have hbA2 : Below w5.heap.size w5 (w5.alloc (.cells (nodeC what la ln lc sg n ba bn bc).toArray 81)) := bl_alloc (Below.refl _ _) _
        have hbx := bl_trans m1.out (bl_trans hb5 hbA2)
        have hN2 := hN.keep (KeepI.below hbA2 (Nat.le_refl _))
        obtain ⟨L1, L2, _, _, _, _, d5, d6⟩ := hLd.out _ hbx
        have hnd := ndLoad2_is (Blk.new w5 81 (nodeC what la ln lc sg n ba bn bc))
        have hc := hho.out _ _ _ _ _ hN2 hbx
        rw [hBB] at hc
        exact ⟨hnd, L1, L2, d5, d6, hc, bl_trans hb5 hbA2⟩ : (ndLoad2 ⟨w5.heap.size, 0, none⟩).run Tryz.prog (w5.alloc (.cells (nodeC what la ln lc sg n ba bn bc).toArray 81)) = .ok (.agg (nodeC what la ln lc sg n ba bn bc).toArray) (w5.alloc (.cells (nodeC what la ln lc sg n ba bn bc).toArray 81)) ∧ (stLoad ⟨bw, 0, none⟩).run Tryz.prog (w5.alloc (.cells (nodeC what la ln lc sg n ba bn bc).toArray 81)) = .ok (.agg C1) (w5.alloc (.cells (nodeC what la ln lc sg n ba bn bc).toArray 81)) ∧ (stLoad ⟨bw + 1, 0, none⟩).run Tryz.prog (w5.alloc (.cells (nodeC what la ln lc sg n ba bn bc).toArray 81)) = .ok (.agg C2) (w5.alloc (.cells (nodeC what la ln lc sg n ba bn bc).toArray 81)) ∧ bw < (w5.alloc (.cells (nodeC what la ln lc sg n ba bn bc).toArray 81)).heap.size ∧ bw + 1 < (w5.alloc (.cells (nodeC what la ln lc sg n ba bn bc).toArray 81)).heap.size ∧
          Calls Tryz.prog 27 #[.agg (nodeC what la ln lc sg n ba bn bc).toArray, .agg C1, .agg C2] (w5.alloc (.cells (nodeC what la ln lc sg n ba bn bc).toArray 81)) (fun e w2 => e = .returned (.bool B) ∧ Below (w5.alloc (.cells (nodeC what la ln lc sg n ba bn bc).toArray 81)).heap.size (w5.alloc (.cells (nodeC what la ln lc sg n ba bn bc).toArray 81)) w2) ∧ Below wA.heap.size wA (w5.alloc (.cells (nodeC what la ln lc sg n ba bn bc).toArray 81))))
      replace hE := Lib.hid hE
      replace hBB := Lib.hid hBB
      clear hpw hps hphi hho hpr L1 L2 d1 d2 d3 d4 d5 d6
      cases B
      · have hB : Hid (hitS x v1 v2 = false) := Lib.hid hE.out
        go_wp2_with (first
          | (go_at_call 25; (with_reducible refine cB.out.mono ?_); rintro e w5 ⟨what, la, ln, lc, sg, nn, ba, bn, bc, rfl, hb5, hN5⟩; obtain ⟨r1, r2, r3, r4, r5, r6, r7⟩ := hho2.out _ _ _ _ _ _ _ _ _ w5 hb5 hN5; unfold nodeC at r1 r2 r3 r4 r5 r6 r7; replace r6 := Lib.hid r6; replace r7 := Lib.hid r7)
          | (go_at_call 27; (with_reducible refine r6.out.mono ?_); rintro e w4 ⟨rfl, hb6⟩; obtain ⟨e0, e5, m1, m2⟩ := hbk.out w4 (bl_trans r7.out hb6); replace m1 := Lib.hid m1; replace m2 := Lib.hid m2; clear r1 r2 r3 r4 r5 hb6))
        go_roundg (l.length - (i + 1))
        case measure => omega
        case rel => exact ⟨i + 1, rfl, by go_num, by omega, Lib.hid (by rw [hsn.out, hB.out, if_neg (by simp), List.append_nil]; exact m2.out), Lib.hid m1.out⟩
      · have hB : Hid (hitS x v1 v2 = true) := Lib.hid hE.out
        go_upto_region 12 with (first
          | (go_at_call 25; (with_reducible refine cB.out.mono ?_); rintro e w5 ⟨what, la, ln, lc, sg, nn, ba, bn, bc, rfl, hb5, hN5⟩; obtain ⟨r1, r2, r3, r4, r5, r6, r7⟩ := hho2.out _ _ _ _ _ _ _ _ _ w5 hb5 hN5; unfold nodeC at r1 r2 r3 r4 r5 r6 r7; replace r6 := Lib.hid r6; replace r7 := Lib.hid r7)
          | (go_at_call 27; (with_reducible refine r6.out.mono ?_); rintro e w4 ⟨rfl, hb6⟩; obtain ⟨e0, e5, m1, m2⟩ := hbk.out w4 (bl_trans r7.out hb6); replace m1 := Lib.hid m1; replace m2 := Lib.hid m2; clear r1 r2 r3 r4 r5 hb6))
        have m1' := m1.out
        have hsr := Lib.hid (src_new w4 3 [.int .i64 x.id] w4.heap.size rfl)
        have ho2 := Lib.hid (m2.out.alloc (.cells [.int .i64 x.id].toArray 3))
        have hbs : W2.heap.size ≤ (w4.alloc (.cells [.int .i64 x.id].toArray 3)).heap.size := by have := m1'.size; simp; omega
        have hgr := Lib.hid (fun w3 (hg : (w4.alloc (.cells [.int .i64 x.id].toArray 3)).grownBy w3 (Value.slice oa (hitsS (l.take i) v1 v2).length oc).ownBlock) => (bl_alloc m1' (.cells [.int .i64 x.id].toArray 3)).grown hg hbs (fun j hj => (ho2.out.lt j hj).1))
        have hone := Lib.hid (one_int x.id)
        replace hbs := Lib.hid hbs
        clear m2 m1'
        go_wp2_with (at_builtin; refine wpList_append_src _ (by rfl) (.tmp 83) (.tmp 86) 57 (by rfl) W2.heap.size 3 i0 _ 1 8 Tryz.underlying57 hi0 hz0 hz1 hz2 (by rfl) (by decide) _ _ _ (by rfl) ho2.out _ 1 _ (by rfl) hsr.out rfl hone.out (by unfold maxLen; omega) (by omega) hbs.out ?_; intro v2' w5 ho3 hg3; have hb5 := hgr.out _ hg3; replace ho3 := Lib.hid ho3; replace hg3 := Lib.hid hg3)
        go_roundg (l.length - (i + 1))
        case measure => omega
        case rel => exact ⟨i + 1, rfl, by go_num, by omega, Lib.hid (by rw [hsn.out, hB.out]; simp only [if_true, List.length_append, List.map_append]; exact ho3.out), Lib.hid hb5⟩
end Go.Proofs.YtcjcflmnghhbaaaGreat
