/-
  Stops.Delete; an Add that goes well; of chapter 28.
  Conditions: as each theorem states them.
-/
import Derived.Test.YtcjcflmnghhbaaaGreatStopD
import Derived.Test.YtcjcflmnghhbaaaGreatStopBo
import Derived.Test.YtcjcflmnghhbaaaGreatStopHi
namespace Go.Proofs.YtcjcflmnghhbaaaGreat
open Go.RowKit
set_option linter.unusedVariables false
set_option linter.unusedSimpArgs false
theorem delete_nil (id : Int) (W : World) : Calls Tryz.prog 7 #[.pointer none, .int .i64 id] W fun e w' => e = .returned (.int .i64 1) ∧ Below W.heap.size W w' := by
  go_enter Tryz.func7, Tryz.ntmps7
  go_wp2_with fail
  go_ret
  exact ⟨rfl, bl_alloc (Below.refl _ _) _⟩
theorem StopsR.del {N : Nat} {W w2 : World} {p : Nat} {v v' : Value} {l : List Stp} {last : Int} (h : StopsR N W p v l last) (id : Int) (hO : Only (fun k => v.ownBlock = some k) W w2) (hr : w2.ownsRow N 75 6 v' (delS id l).length (stpsC (delS id l))) (he : v'.ownBlock = v.ownBlock) :
    StopsR N (w2.setCell ⟨p, 0, none⟩ v') p v' (delS id l) last := by
  have hO2 : Only (fun k => k = p ∨ v.ownBlock = some k) W (w2.setCell ⟨p, 0, none⟩ v') := (hO.mono (fun k hk => .inr hk)).setCell (p := ⟨p, 0, none⟩) (.inl rfl) _
  have hp2 : Blk w2 p 71 [v, .int .i64 last] := h.blk.only hO h.apart
  refine ⟨h.np, hp2.set 0 v', ?_, by rw [he]; exact h.apart, fun y hy => ?_⟩
  · refine ownsRow_only hr ((Only.refl (fun k => k = p) w2).setCell (p := ⟨p, 0, none⟩) rfl _) (fun r hr2 e => h.apart ?_)
    rw [← he, hr2, e]
  · have hy2 : y ∈ l := (List.mem_filter.1 hy).1
    have := (h.conds y hy2).only hO2 (fun k hk => by rcases hk with h | h; exact .inl h; exact .inr (.inl h))
    intro cb lo hi phi e
    obtain ⟨h1, h2, h3⟩ := this cb lo hi phi e
    exact ⟨h1, h2, fun r hr2 => h3 r (by rw [← he]; exact hr2)⟩
set_option maxHeartbeats 4000000 in
set_option maxRecDepth 100000 in
theorem delete_any {N : Nat} {W : World} {p : Nat} {l : List Stp} {last : Int} (h : StopsAt N W p l last) (hN : N ≤ W.heap.size) (hl : l.length ≤ 1000000) (id : Int) :
    Calls Tryz.prog 7 #[.pointer (some ⟨p, 0, none⟩), .int .i64 id] W fun e w' => e = .returned (.int .i64 (if (delS id l).length = l.length then 6 else 0)) ∧ StopsAt N w' p (delS id l) last ∧ Below N W w' := by
  obtain ⟨v, hR⟩ := h
  have hB := Blk.new W 3 [.int .i64 id]
  have hb1 : Below W.heap.size W (W.alloc (.cells [.int .i64 id].toArray 3)) := bl_alloc (Below.refl _ _) _
  have hR1 := hR.below hb1
  have hvb : v.ownBlock ≠ some W.heap.size := fun e => by have := (hR.row.lt _ e).2; omega
  have hdf := Lib.hid (delfunc_any (ent_at (by kernel_rfl) : Ent 22) ask_delete hR1.row hl (hB.cell 0) hB.lt hvb)
  have hp := hR.blk.lt
  have c0 : W.cell? ⟨p, 0, none⟩ = some v := hR.blk.cell 0
  have hnp := hR.np
  have hvl := Lib.hid (fun r (hr : v.ownBlock = some r) => (hR.row.lt r hr).1)
  obtain ⟨va, vc, rfl⟩ := own_slice hR.row
  have hend := Lib.hid (fun w2 v' (hr : w2.ownsRow N 75 6 v' (delS id l).length (stpsC (delS id l))) (he : v'.ownBlock = (Value.slice va l.length vc).ownBlock) (hO : Only (fun k => (Value.slice va l.length vc).ownBlock = some k) (W.alloc (.cells [.int .i64 id].toArray 3)) w2) =>
    (⟨hR1.del id hO hr he, (((hb1.mono hN).trans (Only.below hO (by have := hb1.size; omega) (fun k hk => hvl.out k hk)))).setCell (by show N ≤ p; exact hnp) _, (hR1.blk.only hO hR1.apart).cell 0, (hR1.blk.only hO hR1.apart).free 0, (hR1.blk.only hO hR1.apart).lt⟩ : StopsR N (w2.setCell ⟨p, 0, none⟩ v') p v' (delS id l) last ∧ Below N W (w2.setCell ⟨p, 0, none⟩ v') ∧ w2.cell? ⟨p, 0, none⟩ = some (.slice va l.length vc) ∧ w2.frozen? ⟨p, 0, none⟩ = false ∧ p < w2.heap.size))
  clear hR hB hb1 hR1 hvb
  obtain ⟨m, hm⟩ : ∃ m, (delS id l).length = m := ⟨_, rfl⟩
  obtain ⟨D, hD⟩ : ∃ D, delS id l = D := ⟨_, rfl⟩
  rw [hm, hD] at hdf hend
  rw [hm, hD]
  have hml : m ≤ l.length := by rw [← hm]; exact List.length_filter_le _ _
  replace hm := Lib.hid hm
  replace hD := Lib.hid hD
  by_cases he : m = l.length
  · subst he
    rw [if_pos rfl]
    go_enter Tryz.func7, Tryz.ntmps7
    go_wp2_with (go_at_call 21; refine hdf.out.mono ?_; rintro e w2 ⟨v', rfl, hr, he, hO⟩; obtain ⟨va2, vc2, rfl⟩ := own_slice hr; obtain ⟨h1, h2, h3, h4, h5⟩ := hend.out w2 _ hr he hO; replace h1 := Lib.hid h1; replace h2 := Lib.hid h2; clear hr he hO)
    go_ret
    exact ⟨rfl, ⟨_, h1.out⟩, h2.out⟩
  · rw [if_neg he]
    have q0 : ((m : Int) == (l.length : Int)) = false := by simp; omega
    go_enter Tryz.func7, Tryz.ntmps7
    go_wp2_with (go_at_call 21; refine hdf.out.mono ?_; rintro e w2 ⟨v', rfl, hr, he, hO⟩; obtain ⟨va2, vc2, rfl⟩ := own_slice hr; obtain ⟨h1, h2, h3, h4, h5⟩ := hend.out w2 _ hr he hO; replace h1 := Lib.hid h1; replace h2 := Lib.hid h2; clear hr he hO)
    go_ret
    exact ⟨rfl, ⟨_, h1.out⟩, h2.out⟩
end Go.Proofs.YtcjcflmnghhbaaaGreat
