/-
  The digits of a number: the walk; of chapter 27.
  Conditions: as each theorem states them.
-/
import Derived.Test.YtlaafamodaogmaaAppR
import Derived.Test.YtlaafamodaogmaaConvB
import Derived.Test.YtlaafamodaogmaaCondSb
import Derived.Deep.LoopGhost
namespace Go.Proofs.Ytlaafamodaogmaa
open Go.RowKit
set_option linter.unusedVariables false
set_option linter.unusedSimpArgs false
theorem src_own {w : World} {base e n : Nat} {v : Value} {xs : List Value} (h : w.ownsRow base e 1 v n xs) : SrcAt w v n xs := by
  obtain ⟨a, c, rfl⟩ := own_slice h
  refine ⟨a, c, rfl, fun ea => ?_, fun ad ea j u hj => ?_⟩
  · subst ea
    rcases h.2 with ⟨_, h0⟩ | ⟨g, cap, cur, he, _⟩
    · exact h0
    · cases he
  · subst ea
    have hg : (Value.slice (some ad) n c).ownBlock = some ad.block := rfl
    rcases h.2 with ⟨he, _⟩ | ⟨g, cap, cur, he, _⟩
    · cases he
    · cases he
      exact h.cells hg j u hj
theorem own_one (w : World) (base e : Nat) (u : Value) (hb : base ≤ w.heap.size) : (w.alloc (.cells #[u] e)).ownsRow base e 1 (.slice (some ⟨w.heap.size, 0, none⟩) 1 1) 1 [u] :=
  ⟨rfl, .inr ⟨w.heap.size, 1, #[u], rfl, hb, heap_alloc_new w _, Nat.le_refl _, by decide, rfl, rfl⟩⟩
set_option maxHeartbeats 4000000 in
set_option maxRecDepth 100000 in
theorem digits_any (N : Nat) (hN : N < 100000) (w : World) :
    Calls Try.prog 14 #[.int .i64 (N : Int)] w fun e w' => ∃ v, e = .returned v ∧ w'.ownsRow w.heap.size 5 1 v (CM.dgs N).length (Lib.byteCells (CM.dgs N)) ∧ Below w.heap.size w w' := by
  obtain ⟨i0, hi, hz0, hz1, hz2⟩ := info_parts infoByteB
  have hlen := CM.dgs_len 4 N (by omega)
  go_enter Try.func14, Try.ntmps14
  go_wp2_with fail
  go_loopg [0, 3] N (fun gh v o wr => ∃ (m : Nat) (ds : List UInt8), gh = m ∧ v = .int .i64 (m : Int) ∧ m ≤ N ∧ Hid (CM.dgs N = CM.dgs m ++ ds) ∧ Hid (wr.ownsRow w.heap.size 5 1 o ds.length (Lib.byteCells ds)) ∧ Hid (Below w.heap.size w wr))
  case atStart => exact ⟨N, [], rfl, rfl, Nat.le_refl _, Lib.hid (by simp), Lib.hid (World.ownsRow_nil _ _ _ _), Lib.hid (Below.refl _ _)⟩
  case round =>
    obtain ⟨m, ds, hgm, rfl, hm, hd, ho, hb⟩ := hrel
    replace hgm := hgm.symm
    subst hgm
    replace hd := hd.out
    obtain ⟨a, c, rfl⟩ := own_slice ho.out
    have hdl : ds.length ≤ 5 := by
      have := congrArg List.length hd
      simp only [List.length_append] at this
      omega
    replace hd := Lib.hid hd
    have e1 : ((m : Int)).tmod 10 = ((m % 10 : Nat) : Int) := rfl
    have e2 : ((m : Int)).tdiv 10 = ((m / 10 : Nat) : Int) := rfl
    have hone := Lib.hid (own_one wr w.heap.size 5 (.int .u8 (48 + (m : Int) % 10)) hb.out.size)
    have hsrc := Lib.hid ((src_own ho.out).below (bl_alloc (Below.refl wr.heap.size wr) (.cells #[.int .u8 (48 + (m : Int) % 10)] 5)))
    have hbl := Lib.hid (byteCells_len ds)
    have hb1 := Lib.hid (bytes_one ds)
    have hB1 : Below w.heap.size w (wr.alloc (.cells #[.int .u8 (48 + (m : Int) % 10)] 5)) := bl_alloc hb.out _
    have hcell : Value.int .u8 (48 + (m : Int) % 10) = .int .u8 ((CM.dgt m).toNat : Int) := by rw [CM.dgt_nat]; congr 1
    replace hB1 := Lib.hid hB1
    replace hcell := Lib.hid hcell
    obtain ⟨n, hn⟩ : ∃ n, ds.length = n := ⟨_, rfl⟩
    rw [hn] at hdl hsrc hbl ho ⊢
    replace hn := Lib.hid hn
    replace ho := Lib.hid ho
    by_cases hz : m / 10 = 0
    · have q1 : ((m : Int).tdiv 10 == 0) = true := by rw [e2, hz]; rfl
      go_wp2_with (at_builtin; refine wpList_append_src _ rfl (.tmp 8) (.tmp 9) 22 rfl w.heap.size 5 i0 (.int .u8 0) 1 1 Try.underlying22 hi hz0 hz1 hz2 rfl (by decide) _ _ _ rfl hone.out _ n _ rfl hsrc.out hbl.out hb1.out (by unfold maxLen; omega) (by omega) hB1.out.size ?_; intro v1 w1 hown1 hgrow1)
      all_goals
        have hx : ([Value.int .u8 (48 + (m : Int) % 10)] ++ Lib.byteCells ds) = Lib.byteCells (CM.dgt m :: ds) := by rw [hcell.out]; rfl
        have hl2 : 1 + n = (CM.dgt m :: ds).length := by rw [List.length_cons, hn.out]; omega
        rw [hx, hl2] at hown1
        have hB2 := hB1.out.grown hgrow1 hB1.out.size (fun k hk => (hone.out.lt k hk).1)
      all_goals go_ret
      all_goals exact ⟨v1, rfl, by rw [hd.out, CM.dgs_end hz]; exact hown1, hB2⟩
    · have q1 : ((m : Int).tdiv 10 == 0) = false := by rw [e2]; simp; omega
      go_wp2_with (at_builtin; refine wpList_append_src _ rfl (.tmp 8) (.tmp 9) 22 rfl w.heap.size 5 i0 (.int .u8 0) 1 1 Try.underlying22 hi hz0 hz1 hz2 rfl (by decide) _ _ _ rfl hone.out _ n _ rfl hsrc.out hbl.out hb1.out (by unfold maxLen; omega) (by omega) hB1.out.size ?_; intro v1 w1 hown1 hgrow1)
      all_goals
        have hx : ([Value.int .u8 (48 + (m : Int) % 10)] ++ Lib.byteCells ds) = Lib.byteCells (CM.dgt m :: ds) := by rw [hcell.out]; rfl
        have hl2 : 1 + n = (CM.dgt m :: ds).length := by rw [List.length_cons, hn.out]; omega
        rw [hx, hl2] at hown1
        have hB2 := hB1.out.grown hgrow1 hB1.out.size (fun k hk => (hone.out.lt k hk).1)
      all_goals go_roundg (m / 10)
      case measure => omega
      case rel => exact ⟨m / 10, CM.dgt m :: ds, rfl, rfl, by omega, Lib.hid (by rw [hd.out, CM.dgs_more hz, List.append_assoc]; rfl), Lib.hid hown1, Lib.hid hB2⟩
end Go.Proofs.Ytlaafamodaogmaa
