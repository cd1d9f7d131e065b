/-
  Contracts of Text and Join, of package digit: the number's decimal text; those texts with the separator between. Both lay memory of their own alone.
  Conditions: the table of powers of ten lies as laid; as each theorem states them; none beyond.
-/
import Derived.Test.YtaginadnaajleaaDoorBase
import Derived.Test.YtaginadnaajleaaDoorShelf
import Derived.Deep.Light
import Derived.Lib.ItoaLen
import Derived.Maps.AppendAt
import Derived.OwnWalk
namespace Go.Proofs.YtaginadnaajleaaDoor
open Go.RowKit Go.Sort
set_option linter.unusedVariables false

def Pow (w : World) : Prop := Lib.TabIs Tryd.prog w "internal/strconv.uint64pow10" .u64 Lib.pow10Tab
theorem pow_named : Tryd.prog.globalNamed "internal/strconv.uint64pow10" = some 1 := by kernel_rfl
theorem Pow.below {w w' : World} (h : Pow w) (hb : Below w.heap.size w w') : Pow w' := by
  unfold Pow Lib.TabIs World.var? at h ⊢
  rw [pow_named] at h ⊢
  simp only [Option.bind_some] at h ⊢
  have hlt : 1 < w.heap.size := by
    rcases Nat.lt_or_ge 1 w.heap.size with h' | h'
    · exact h'
    · rw [Array.getElem?_eq_none h'] at h; cases h
  rw [hb.block _ hlt]
  exact h
theorem grow_below (w : World) (k : Nat) (os : Array Obj) : Below w.heap.size w (Sort.grow (w.drewN k) os) :=
  ⟨rfl, rfl, rfl, by show w.heap.size ≤ (w.heap ++ os).size; rw [Array.size_append]; omega, fun _ hj => Sort.heap_grow_old (w.drewN k) os hj⟩
def txt (n : Int) : ByteArray := ⟨(Lib.itoa n).toArray⟩
theorem text_any (n : Int) (hn : -9223372036854775808 ≤ n ∧ n ≤ 9223372036854775807) (w : World) (hp : Pow w) :
    Calls Tryd.prog 16 #[.int .i64 n] w fun e w' => e = .returned (.string (txt n)) ∧ Below w.heap.size w w' := by
  go_enter Tryd.func16, Tryd.ntmps16
  go_wp2_with (go_at_call 33; refine (Tryd.strconv_Itoa n hn.1 hn.2 _ hp).mono ?_; rintro e w' ⟨rfl, k, os, rfl⟩)
  all_goals go_ret
  all_goals exact ⟨rfl, grow_below _ _ _⟩

end Go.Proofs.YtaginadnaajleaaDoor
