/-
  What the rows' condition on the laid variables gives the walks: the table of powers of ten, the two errors of strconv; and that the door's own heap meets the condition.
  Conditions: as each theorem states them; none beyond.
-/
import Derived.Test.YtepdfkgadigafaaGreatDoorRows
import Derived.Test.YtepdfkgadigafaaGreatDoorRdA
import Derived.Test.YtepdfkgadigafaaGreatDoorText
import Derived.LaidMore
import Derived.LaidHandle
import Derived.Lay
import Derived.LaidOnce
import Derived.MakeChecks
import Derived.Stop.LaidErr
import Derived.Stop.Joined
namespace Go.Proofs.YtepdfkgadigafaaGreatDoor
open Go.RowKit
set_option linter.unusedVariables false
set_option maxRecDepth 100000
def laidAll : List (String × DataW Unit) := [("math/bits.deBruijn32tab", Rows.laid_math_bits_deBruijn32tab), ("math/bits.deBruijn64tab", Rows.laid_math_bits_deBruijn64tab), ("internal/strconv.uint64pow10", Rows.laid_internal_strconv_uint64pow10), ("unicode/utf8.acceptRanges", Rows.laid_unicode_utf8_acceptRanges), ("strconv.ErrRange", Rows.laid_strconv_ErrRange), ("strconv.ErrSyntax", Rows.laid_strconv_ErrSyntax), ("unicode/utf8.first", Rows.laid_unicode_utf8_first)]
theorem door_met (os : Os) (args : Array Value) : laidMetH Tryz.prog laidAll ((World.laidAll Tryz.prog os laidAll).forCall (fun _ _ => 0) ⟨#[], args, []⟩).memory := by
  rw [MakeChecks.laidMetH_plain _ _ _ (by kernel_rfl)]
  exact laidMet_laidAll _ (by kernel_rfl) (by kernel_rfl)
theorem door_shaped (os : Os) (args : Array Value) : ((World.laidAll Tryz.prog os laidAll).forCall (fun _ _ => 0) ⟨#[], args, []⟩).Shaped Tryz.prog :=
  World.shaped_of_ZipB (by kernel_rfl) (by kernel_rfl)
theorem pow_data : Rows.laid_internal_strconv_uint64pow10 (H := Unit) = Lib.tabData .u64 Lib.pow10Tab := by kernel_rfl
theorem pow_of_laid {W : World} (h : laidMetH Tryz.prog laidAll W) : Pow W := by
  rw [MakeChecks.laidMetH_plain _ _ _ (by kernel_rfl)] at h
  have h2 := h.tail.tail
  rw [pow_data] at h2
  exact Lib.tabIs_of_head (t := Tryz.prog.globals[5]!.type) (e := 208) (n := 20) pow_named (by kernel_rfl) (by kernel_rfl) (by kernel_rfl) (by kernel_rfl) (by kernel_rfl) h2
theorem err_var {W : World} {n : String} {g : Nat} {u v : _} (hg : Tryz.prog.globalNamed n = some g) (h : W.var? Tryz.prog n = some #[.iface u v]) : ErrOne W g := by
  refine ⟨.iface u v, ?_, .inr ⟨u, v, rfl⟩⟩
  unfold World.var? at h
  rw [hg] at h
  simp only [Option.bind_some] at h
  unfold World.cell?
  simp only
  split at h
  · rename_i cs _ _ hh
    injection h with h
    rw [hh, h]
    rfl
  · cases h
theorem star_es : "*" ++ "errors.errorString" = "*errors.errorString" := by decide
theorem row_es  : ∀ u, Tryz.prog.typeName? 3 u = some "*errors.errorString" → u = 242 := fun u h =>
  typeName_ptr_named (nm := "errors.errorString") (by rw [star_es]; kernel_rfl) (by kernel_rfl) (by decide) u (by rw [star_es]; exact h)
theorem err_of_laid {W : World} (h : laidMetH Tryz.prog laidAll W) : ErrAt W := by
  rw [MakeChecks.laidMetH_plain _ _ _ (by kernel_rfl)] at h
  have h4 := h.tail.tail.tail.tail
  have h5 := h4.tail
  unfold Rows.laid_strconv_ErrRange at h4
  unfold Rows.laid_strconv_ErrSyntax at h5
  obtain ⟨a4, s4, e4, _⟩ := laid_sentinel (g := 4) (tp := 242) h4 (by kernel_rfl) (ti := 102) (by kernel_rfl) Tryz.underlying102 row_es Tryz.underlying242 Tryz.underlying244 rfl rfl Tryz.underlying9 (by kernel_rfl) (by kernel_rfl)
  obtain ⟨a5, s5, e5, _⟩ := laid_sentinel (g := 3) (tp := 242) h5 (by kernel_rfl) (ti := 102) (by kernel_rfl) Tryz.underlying102 row_es Tryz.underlying242 Tryz.underlying244 rfl rfl Tryz.underlying9 (by kernel_rfl) (by kernel_rfl)
  exact ⟨err_var (by kernel_rfl) e5, err_var (by kernel_rfl) e4⟩
end Go.Proofs.YtepdfkgadigafaaGreatDoor
