/-
  Plain facts on decimal numerals: what is written of a number is read as it; how one digit comes behind the others.
  Conditions: none; no program in sight but the names of 'txt' and 'numS'.
-/
import Derived.Test.YtjfpepinmbbnbaaDoorD1
namespace Go.Proofs.YtjfpepinmbbnbaaDoor
open Go.RowKit
set_option linter.unusedVariables false
theorem dd_small {u : Nat} (h : u < 10) : Lib.decDigits u = [UInt8.ofNat (48 + u)] := by rw [Lib.decDigits, dif_pos h]
theorem dd_step {u : Nat} (h : ¬ u < 10) : Lib.decDigits u = Lib.decDigits (u / 10) ++ [UInt8.ofNat (48 + u % 10)] := by rw [Lib.decDigits, dif_neg h]
theorem dd_dig (u : Nat) : ∀ c ∈ Lib.decDigits u, dig c = true := by
  induction u using Nat.strongRecOn with
  | _ u ih =>
    by_cases h : u < 10
    · rw [dd_small h]
      intro c hc
      simp at hc
      subst hc
      simp [dig, UInt8.toNat_ofNat']
      omega
    · rw [dd_step h]
      intro c hc
      rw [List.mem_append] at hc
      rcases hc with hc | hc
      · exact ih _ (by omega) c hc
      · simp at hc
        subst hc
        simp [dig, UInt8.toNat_ofNat']
        omega
theorem dd_val (u : Nat) : valD (Lib.decDigits u) = u := by
  induction u using Nat.strongRecOn with
  | _ u ih =>
    by_cases h : u < 10
    · rw [dd_small h]
      simp [valD, UInt8.toNat_ofNat']
      omega
    · rw [dd_step h, valD_snoc, ih _ (by omega)]
      simp [UInt8.toNat_ofNat']
      omega
theorem dd_ne (u : Nat) : Lib.decDigits u ≠ [] := by
  by_cases h : u < 10
  · rw [dd_small h]; simp
  · rw [dd_step h]; simp
theorem numS_back (f r : List UInt8) (u : Nat) (most : Int) (hr : ∀ c, r.head? = some c → dig c = false) :
    numS (f ++ Lib.decDigits u ++ r) f.length most = if most < u then (0, 0, 3) else ((u : Int), (f.length : Int) + (Lib.decDigits u).length, 0) := by
  have e : ((f ++ Lib.decDigits u ++ r).drop f.length).takeWhile dig = Lib.decDigits u := by
    rw [List.append_assoc, List.drop_left, List.takeWhile_append_of_pos (dd_dig u)]
    cases r with
    | nil => simp
    | cons c r => rw [List.takeWhile_cons, if_neg (by rw [hr c rfl]; simp), List.append_nil]
  unfold numS
  rw [if_neg (by simp; omega)]
  simp only [Int.toNat_natCast, e]
  rw [if_neg (by simpa using dd_ne u), dd_val]
theorem txt_nat (u : Nat) : txt (u : Int) = ⟨(Lib.decDigits u).toArray⟩ := by rw [txt, Lib.itoa_nonneg]
theorem txt_neg (u : Nat) (h : 1 ≤ u) : txt (-(u : Int)) = ⟨(45 :: Lib.decDigits u).toArray⟩ := by rw [txt, Lib.itoa_neg u h]
theorem ba_append (a b : List UInt8) : (⟨a.toArray⟩ : ByteArray) ++ ⟨b.toArray⟩ = ⟨(a ++ b).toArray⟩ := by
  apply ByteArray.ext
  simp [ByteArray.data_append]
theorem txt_up (u : Nat) (h : ¬ u < 10) : txt (u : Int) = txt ((u / 10 : Nat) : Int) ++ ⟨#[UInt8.ofNat (48 + u % 10)]⟩ := by
  rw [txt_nat, txt_nat, dd_step h]
  exact (ba_append _ [_]).symm
theorem txt_down (u : Nat) (h : ¬ u < 10) : txt (-(u : Int)) = txt (-((u / 10 : Nat) : Int)) ++ ⟨#[UInt8.ofNat (48 + u % 10)]⟩ := by
  rw [txt_neg u (by omega), txt_neg (u / 10) (by omega), dd_step h]
  exact (ba_append (45 :: _) [_]).symm
end Go.Proofs.YtjfpepinmbbnbaaDoor
