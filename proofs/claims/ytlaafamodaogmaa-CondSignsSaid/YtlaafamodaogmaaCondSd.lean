/-
  The closure of CondSigns: a condition on the line, made of a sign and a number's digits: the walk; of chapter 27.
  Conditions: as each theorem states them.
-/
import Derived.Test.YtlaafamodaogmaaCondLw
import Derived.Test.YtlaafamodaogmaaCondDg
import Derived.Test.YtlaafamodaogmaaCondSc
namespace Go.Proofs.Ytlaafamodaogmaa
open Go.RowKit
set_option linter.unusedVariables false
set_option linter.unusedSimpArgs false
attribute [local go_sem ↓] load_st
set_option maxHeartbeats 4000000 in
set_option maxRecDepth 100000 in
theorem sign_any (A sg : List UInt8) (hA : A ∈ CM.sgA) (hsg : A.filter (fun x => x != 32) = sg) (N : Nat) (hN : N < 65536) (nb kb sb : Nat) (s1 s2 : StC) (v1 v2 : CM.Sv) (W : World)
    (hn : W.cell? ⟨nb, 0, none⟩ = some (.int .u16 (N : Int))) (hnl : nb < W.heap.size) (hk : Blk W kb 34 s1.cells) (hs : Blk W sb 34 s2.cells) (h1 : StSv W s1 v1) (h2 : StSv W s2 v2) (hm : MxAt W) :
    Calls Try.prog 13 #[strV A, .pointer (some ⟨nb, 0, none⟩), .pointer (some ⟨kb, 0, none⟩), .pointer (some ⟨sb, 0, none⟩)] W fun e w' => e = .returned (.bool (CM.signOf sg v2.line N)) ∧ Below W.heap.size W w' := by
  have hAl : A.length ≤ 3 := by
    simp only [CM.sgA, List.mem_cons, List.not_mem_nil, or_false] at hA
    rcases hA with rfl | rfl | rfl | rfl | rfl | rfl <;> simp
  have hdl := CM.dgs_len 4 N (by omega)
  obtain ⟨_, rfl, hp⟩ := CM.parse_signs N hN A hA
  subst hsg
  have hdg := Lib.hid (digits_any N (by omega))
  have hcv := Lib.hid (fun (base : Nat) (v : Value) (w : World) (h : w.ownsRow base 5 1 v (CM.dgs N).length (Lib.byteCells (CM.dgs N))) => conv_line h)
  have cP := Lib.hid (fun w' => (by have := cparse_any (CM.lineW ++ A ++ CM.dgs N) w'; unfold ParseIs at this; rw [hp] at this; exact this : Calls Try.prog 11 #[strV (CM.lineW ++ A ++ CM.dgs N)] w' fun e w2 => ∃ c, e = .returned (.tuple #[.pointer (some ⟨c, 0, none⟩), .int .i64 0, .int .i64 0]) ∧ CondIs w2 c (CM.lineW ++ A ++ CM.dgs N) (fun _ now => CM.signOf (A.filter (fun x => x != 32)) now.line N) ∧ w'.heap.size ≤ c ∧ Below w'.heap.size w' w2))
  have hH := Lib.hid (fun c t (phi : CM.M) w' (hC : CondIs w' c t phi) (hw : Below W.heap.size W w') => holds_any hC (h1.below hw) (h2.below hw) (hm.below hw))
  have hL := Lib.hid (fun w' (hb : Below W.heap.size W w') => (⟨stLoad_is s1 (hk.below hb), stLoad_is s2 (hs.below hb)⟩ : _ ∧ _))
  have ha1 : (⟨#[108, 105, 110, 101]⟩ : ByteArray) ++ ⟨A.toArray⟩ = ⟨(CM.lineW ++ A).toArray⟩ := ba_add CM.lineW A
  have ha2 : (⟨(CM.lineW ++ A).toArray⟩ : ByteArray) ++ ⟨(CM.dgs N).toArray⟩ = ⟨(CM.lineW ++ A ++ CM.dgs N).toArray⟩ := ba_add _ _
  have hcl : (CM.dgs N).length ≤ 5 := hdl
  generalize CM.dgs N = D at *
  generalize hS : CM.lineW ++ A ++ D = S at *
  have hSL : (CM.lineW ++ A).length ≤ 7 := by simp; omega
  generalize CM.lineW ++ A = LA at *
  clear hA hp h1 h2 hm hk hs hdl
  replace hS := Lib.hid hS
  go_enter Try.func13, Try.ntmps13
  go_upto_region 2 with (first
    | (go_at_call 14; (with_reducible refine (hdg.out _).mono ?_); rintro e w2 ⟨v, rfl, ho, hb2⟩; have hv := hcv.out _ _ _ ho)
    | (go_at_call 11; (with_reducible refine (cP.out _).mono ?_); rintro e w3 ⟨c, rfl, hC, _, hb3⟩))
  have hb := bl_trans hb2 hb3
  obtain ⟨L1, L2⟩ := hL.out _ hb
  have hcc := Lib.hid (hH.out _ _ _ _ hC hb)
  unfold StC.cells at L1 L2 hcc
  clear hC hL hH hdg hcv cP
  replace hb := Lib.hid hb
  go_wp2_with (go_at_call 12; (with_reducible refine hcc.out.mono ?_); rintro e w4 ⟨rfl, hb4⟩)
  go_ret
  exact ⟨rfl, bl_trans hb.out hb4⟩
end Go.Proofs.Ytlaafamodaogmaa
