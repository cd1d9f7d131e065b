/-
  CondSigns at data that come in: the walk, as the frame takes it; of chapter 27.
  Conditions: as each theorem states them.
-/
import Derived.Test.YtlaafamodaogmaaCondSn
namespace Go.Proofs.Ytlaafamodaogmaa
open Go.RowKit
set_option linter.unusedVariables false
theorem rowAt_bytes {W : World} {p o : Nat} {x : List UInt8} (h : RowAt rByte (Sub.all W) p o x) : p < W.heap.size ∨ x = [] := by
  cases x with
  | nil => exact .inr rfl
  | cons c r =>
    obtain ⟨cs, h1, h2⟩ := h 0 (by simp)
    exact .inl (h2.lt (Sub.all_in W))
theorem bytesAt_of {W : World} {a : Option Addr} {n c : Nat} {x : List UInt8} (h : (rSl rByte).ok (Sub.all W) [.slice a n c] x) : n = x.length ∧ x.length ≤ c ∧ c ≤ maxLen ∧ BytesAt W a x := by
  obtain ⟨a', cap, e, h1, h2, h3⟩ := h
  simp only [List.cons.injEq, Value.slice.injEq, and_true] at e
  obtain ⟨rfl, rfl, rfl⟩ := e
  refine ⟨rfl, h1, h2, fun h0 => ?_⟩
  obtain ⟨p, o, e, hr⟩ := h3 h0
  refine ⟨p, o, e, ?_, hr.bytes (Sub.all_in W)⟩
  rcases rowAt_bytes hr with h | h
  · exact h
  · rw [h] at h0; simp at h0
theorem condSigns_walk (W : World) (a0 : Int) (w0 : (Lit.int .u16 a0).wf = true) (a1 : Int) (w1 : (Lit.int .u16 a1).wf = true) (a2 : Option Addr) (n2 c2 : Nat) (x2 : List UInt8) (rd2 : (rSl rByte).ok (Sub.all W) [.slice a2 n2 c2] x2)
    (a3 : Int) (w3 : (Lit.int .u8 a3).wf = true) (a4 : Int) (w4 : (Lit.int .u8 a4).wf = true) (hsh : W.ShapedOpen Try.prog) :
    Calls Try.prog 4 #[.int .u16 a0, .int .u16 a1, .slice a2 n2 c2, .int .u8 a3, .int .u8 a4] W fun e w' => e = .returned (.bool true) ∧ Below W.heap.size W w' := by
  obtain ⟨rfl, h1, h2, h3⟩ := bytesAt_of rd2
  obtain ⟨mx, hmx⟩ : ∃ m, W.cell? ⟨0, 0, none⟩ = some (.int .i64 m) := Try.laysM186.s1_3 W hsh
  have hm : MxAt W := ⟨World.block_lt_of_cell? W ⟨0, 0, none⟩ hmx, mx, hmx⟩
  unfold maxLen at h2
  have u0 : 0 ≤ a0 ∧ a0 < 65536 := by simp [Lit.wf, IntKind.min, IntKind.max, IntKind.signed, IntKind.bits] at w0; omega
  have u1 : 0 ≤ a1 ∧ a1 < 65536 := by simp [Lit.wf, IntKind.min, IntKind.max, IntKind.signed, IntKind.bits] at w1; omega
  have u3 : 0 ≤ a3 ∧ a3 < 256 := by simp [Lit.wf, IntKind.min, IntKind.max, IntKind.signed, IntKind.bits] at w3; omega
  have u4 : 0 ≤ a4 ∧ a4 < 256 := by simp [Lit.wf, IntKind.min, IntKind.max, IntKind.signed, IntKind.bits] at w4; omega
  obtain ⟨n0, rfl⟩ := Int.eq_ofNat_of_zero_le u0.1
  obtain ⟨n1, rfl⟩ := Int.eq_ofNat_of_zero_le u1.1
  obtain ⟨n3, rfl⟩ := Int.eq_ofNat_of_zero_le u3.1
  obtain ⟨n4, rfl⟩ := Int.eq_ofNat_of_zero_le u4.1
  exact condSigns_list n0 n1 n3 n4 (by omega) (by omega) (by omega) (by omega) a2 c2 x2 W (by omega) h1 h3 hm
end Go.Proofs.Ytlaafamodaogmaa
