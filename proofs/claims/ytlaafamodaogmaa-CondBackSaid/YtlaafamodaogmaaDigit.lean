/-
  Small words on digits.
  Conditions: as each theorem states them; none beyond.
-/
import Derived.Test.YtlaafamodaogmaaProg
import Derived.Test.YtlaafamodaogmaaBase
import Derived.Deep.Light
namespace Go.Proofs.Ytlaafamodaogmaa
open Go.RowKit
set_option linter.unusedVariables false

def wi (c lo hi : Int) : Bool := decide (lo ≤ c) && decide (c ≤ hi)
theorem ret_bb {a b c d : Bool} (h : a = b) (h' : c = d) : Ending.returned (.tuple #[.bool a, .bool c]) = .returned (.tuple #[.bool b, .bool d]) := by rw [h, h']

theorem size_list (s : ByteArray) : s.data.toList.length = s.size := by rw [Array.length_toList]; rfl
end Go.Proofs.Ytlaafamodaogmaa
