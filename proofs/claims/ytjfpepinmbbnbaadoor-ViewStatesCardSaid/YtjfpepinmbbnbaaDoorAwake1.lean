/-
  Contracts: 'awake' of chapter 01's laws answers true; the reference's Text and Copy.
  Conditions: the table of powers of ten lies as laid; as each theorem states them; none beyond.
-/
import Derived.Test.YtjfpepinmbbnbaaDoorNum
import Derived.Test.YtjfpepinmbbnbaaDoorText
import Derived.Lib.SmallJoins
namespace Go.Proofs.YtjfpepinmbbnbaaDoor
open Go.RowKit
set_option linter.unusedVariables false
theorem num_42 : numS [97, 32, 48, 48, 52, 50, 98] (2 : Nat) 99 = (42, 6, 0) := by decide
theorem txt_1 : txt 1 = ⟨#[49]⟩ := by simp [txt, Lib.itoa, Lib.decDigits]
theorem txt_20 : txt 20 = ⟨#[50, 48]⟩ := by simp [txt, Lib.itoa, Lib.decDigits]
theorem txt_m3 : txt (-3) = ⟨#[45, 51]⟩ := by simp [txt, Lib.itoa, Lib.decDigits]
theorem join_123 : joinS ⟨#[45]⟩ [1, 20, -3] = ⟨#[49, 45, 50, 48, 45, 45, 51]⟩ := by
  simp only [joinS, List.map_cons, List.map_nil, txt_1, txt_20, txt_m3]
  rfl
theorem bytes_new (w : World) (e : TypeId) (fr : Nat × Nat) (xs : List UInt8) : ByteRow (w.alloc (.cells (xs.map fun x => Value.int .u8 (x.toNat : Int)).toArray e fr)) w.heap.size 0 xs := fun i hi => by
  rw [World.cell?_alloc_mark]
  simp [hi]
theorem ints_new (w : World) (e : TypeId) (xs : List Int) : IntRow (w.alloc (.cells (xs.map fun x => Value.int .i64 x).toArray e)) w.heap.size 0 xs := fun i hi => by
  have h := (Blk.new w e (xs.map fun x => Value.int .i64 x)).cell (0 + i)
  rw [h]
  simp [hi]
theorem num42_call (w : World) (e : TypeId) (fr : Nat × Nat) : Calls Tryd.prog 14 #[.slice (some ⟨w.heap.size, 0, none⟩) 7 7, .int .i64 2, .int .i64 99] (w.alloc (.cells #[.int .u8 97, .int .u8 32, .int .u8 48, .int .u8 48, .int .u8 52, .int .u8 50, .int .u8 98] e fr)) fun e' w' => e' = .returned (.tuple #[.int .i64 42, .int .i64 6, .int .i64 0]) ∧ w.alloc (.cells #[.int .u8 97, .int .u8 32, .int .u8 48, .int .u8 48, .int .u8 52, .int .u8 50, .int .u8 98] e fr) = w' := by
  have h := num_in (some ⟨w.heap.size, 0, none⟩) 7 [97, 32, 48, 48, 52, 50, 98] 2 99 (w.alloc (.cells (([97, 32, 48, 48, 52, 50, 98] : List UInt8).map fun x => Value.int .u8 (x.toNat : Int)).toArray e fr)) (by decide) (by decide) (by decide) (fun _ => ⟨_, _, rfl, bytes_new w e fr _⟩)
  rw [num_42] at h
  exact h
theorem join123_call (w : World) (e : TypeId) (g : Nat) (hp : Pow w) (hg : g = w.heap.size) : Calls Tryd.prog 19 #[.string ⟨#[45]⟩, .slice (some ⟨g, 0, none⟩) 3 3] (w.alloc (.cells #[.int .i64 1, .int .i64 20, .int .i64 (-3)] e)) fun e' w' => e' = .returned (.string ⟨#[49, 45, 50, 48, 45, 45, 51]⟩) ∧ Below (w.alloc (.cells #[.int .i64 1, .int .i64 20, .int .i64 (-3)] e)).heap.size (w.alloc (.cells #[.int .i64 1, .int .i64 20, .int .i64 (-3)] e)) w' := by
  subst hg
  have h := join_any ⟨#[45]⟩ (some ⟨w.heap.size, 0, none⟩) 3 [1, 20, -3] (w.alloc (.cells (([1, 20, -3] : List Int).map fun x => Value.int .i64 x).toArray e)) (hp.below (bl_alloc (Below.refl _ _) _)) (by decide) (by decide) (by decide) (fun _ => ⟨_, _, rfl, by simp, ints_new w e _⟩)
  rw [join_123] at h
  exact h
set_option maxHeartbeats 2000000 in
set_option maxRecDepth 100000 in
theorem awake01 (w : World) (hp : Pow w) : Calls Tryd.prog 13 #[] w fun e w' => e = .returned (.bool true) ∧ Below w.heap.size w w' := by
  have hp1 := Lib.hid (fun o => hp.below (bl_alloc (Below.refl w.heap.size w) o))
  clear hp
  go_enter Tryd.func13, Tryd.ntmps13
  have kc := fun (w : World) (C : Array Value) (n c : Nat) => Lib.run_convert_bytes_const (P := Tryd.prog) w 22 5 C n c Tryd.underlying22 Tryd.underlying5
  go_wp2_with (first
    | (go_at_call 14; refine (num42_call _ _ _).mono ?_; rintro e w' ⟨rfl, rfl⟩)
    | (go_at_call 19; refine (join123_call _ _ _ (hp1.out _) (by simp)).mono ?_; rintro e w' ⟨rfl, hb⟩))
  all_goals go_ret
  all_goals exact ⟨rfl, bl_trans (bl_alloc (bl_alloc (Below.refl _ _) _) _) hb⟩
end Go.Proofs.YtjfpepinmbbnbaaDoor
