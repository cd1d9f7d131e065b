/-
  DERIVED: THE SHELF's CONTRACTS AT THIS DUMP, IN PLAIN WORDS (tools/lay-plain.mjs out of 'TryShelf.lean', which tools/lay-shelf.mjs wrote): THE SAME DECLARATIONS UNDER THE SAME NAMES: 'import', 'namespace', 'open', 'def', 'theorem' AND NOTHING ELSE: no command of the shelf's: FOR A HAND-IN. Each laying: the table of numbers ('.._ren') and one theorem, a field a fact of the dump's own or the kernel's comparison; each contract: ONE APPLICATION.
-/
import Derived.Shelf.Small.Strs
import Derived.Shelf.Strings.Search1
import Derived.Shelf.Strings.Prefix
import Derived.Shelf.Bytes.SlIndexSmall
import Derived.Shelf.Bytes.SlIndexAt
import Derived.Shelf.Bytes.SlSearch0
import Derived.Shelf.Bytes.SlSearch1
import Derived.Shelf.Bytes.SlSearch2
import Derived.Shelf.Bytes.SlIndexWhole
import Derived.Shelf.LaysM
import Derived.Shelf.Bytes.SlEqualAll
import Derived.Shelf.Bytes.Small
import Derived.Shelf.Bytes.IndexByte
import Derived.Test.YtlaafamodaogmaaProg
namespace Go.Proofs
open Go.Shelf
def Try.lays186_ren : Go.Shelf.Ren := ⟨fun | 186 => 105 | 185 => 109 | 187 => 110 | 115 => 103 | 253 => 111 | 224 => 112 | 254 => 113 | 255 => 114 | 291 => 115 | n => n, fun | 37 => 22 | 4 => 4 | 3 => 3 | 0 => 0 | 5 => 5 | 46 => 148 | 9 => 9 | 146 => 150 | 51 => 149 | n => n, fun | 1 => 0 | n => n⟩
theorem Try.lays186 : Go.Proofs.Lays.n186 Try.prog Try.lays186_ren := {
  mixed := by kernel_rfl
  f115 := Try.func103.trans (congrArg some (by kernel_rfl))
  f185 := Try.func109.trans (congrArg some (by kernel_rfl))
  f186 := Try.func105.trans (congrArg some (by kernel_rfl))
  f187 := Try.func110.trans (congrArg some (by kernel_rfl))
  f224 := Try.func112.trans (congrArg some (by kernel_rfl))
  f253 := Try.func111.trans (congrArg some (by kernel_rfl))
  f254 := Try.func113.trans (congrArg some (by kernel_rfl))
  f255 := Try.func114.trans (congrArg some (by kernel_rfl))
  f291 := Try.func115.trans (congrArg some (by kernel_rfl))
  t0 := Try.underlying0
  a0 := Try.isAgg0
  z0 := Try.sizeOf0
  v0 := Try.zeroValue0
  t3 := Try.underlying3
  a3 := Try.isAgg3
  z3 := Try.sizeOf3
  v3 := Try.zeroValue3
  t4 := Try.underlying4
  a4 := Try.isAgg4
  z4 := Try.sizeOf4
  v4 := Try.zeroValue4
  t5 := Try.underlying5
  a5 := Try.isAgg5
  z5 := Try.sizeOf5
  v5 := Try.zeroValue5
  t9 := Try.underlying9
  a9 := Try.isAgg9
  z9 := Try.sizeOf9
  v9 := Try.zeroValue9
  t37 := Try.underlying22
  a37 := Try.isAgg22
  z37 := Try.sizeOf22
  v37 := Try.zeroValue22
  t46 := Try.underlying148
  a46 := Try.isAgg148
  z46 := Try.sizeOf148
  v46 := Try.zeroValue148
  t51 := Try.underlying149
  a51 := Try.isAgg149
  z51 := Try.sizeOf149
  v51 := Try.zeroValue149
  t146 := Try.underlying150
  a146 := Try.isAgg150
  z146 := Try.sizeOf150
  v146 := Try.zeroValue150
  g1 := by kernel_rfl }
open Go.RowKit Go.Lib in
/-- bytes.Contains at a subslice of no byte (nil too): true, whatever b. (LAID: no walk: one application.) -/
theorem Try.bytes_Contains_none (p q : Option Addr) (n c d : Nat) (w : World) :
    Calls Try.prog 105 #[.slice p n c, .slice q 0 d] w fun e w' => e = .returned (.bool true) ∧ w' = w := Any.bytes_Contains_none Try.lays186 p q n c d w
open Go.RowKit Go.Lib in
/-- bytes.Contains at a subslice of two bytes or more that is longer than b: false. (LAID: no walk: one application.) -/
theorem Try.bytes_Contains_longer (p q : Option Addr) (n c m d : Nat) (w : World) (h2 : 2 ≤ m) (hnm : n < m) (hm : m ≤ 9223372036854775807) :
    Calls Try.prog 105 #[.slice p n c, .slice q m d] w fun e w' => e = .returned (.bool false) ∧ w' = w := Any.bytes_Contains_longer Try.lays186 p q n c m d w h2 hnm hm
open Go.Proofs Go.RowKit Go.Lib in
/-- bytes.Contains, WHOLE: "Contains reports whether subslice is within b.": 'Lib.contains' of the two lists of bytes ('0 ≤ Lib.index ..'). (LAID: no walk: one application.) -/
theorem Try.bytes_Contains_at (a1 a2 : Addr) (n c1 k c2 : Nat) (xs ys : List Int) (m : Int) (w : World) (hx : xs.length = n) (hy : ys.length = k) (hr1 : ∀ x ∈ xs, 0 ≤ x ∧ x < 256) (hr2 : ∀ y ∈ ys, 0 ≤ y ∧ y < 256) (hc1 : ∀ i, i < n → w.cell? (a1.add i) = some (.int .u8 (xs.getD i 0))) (hc2 : ∀ i, i < k → w.cell? (a2.add i) = some (.int .u8 (ys.getD i 0))) (hcap : n ≤ c1) (hs : n < 4294967281) (hk : k ≤ 9223372036854775807) (hm : w.cell? ⟨0, 0, none⟩ = some (.int .i64 m)) :
    Calls Try.prog 105 #[.slice (some a1) n c1, .slice (some a2) k c2] w fun e w' => e = .returned (.bool (Lib.contains (Lib.bytesOf xs) (Lib.bytesOf ys))) ∧ ∃ q, w' = w.drewN q := Any.bytes_Contains_at Try.lays186 a1 a2 n c1 k c2 xs ys m w hx hy hr1 hr2 hc1 hc2 hcap hs hk hm
def Try.laysM186_ren : Go.Shelf.Ren := ⟨fun | 186 => 105 | 185 => 109 | 187 => 110 | 115 => 103 | 253 => 111 | 224 => 112 | 254 => 113 | 255 => 114 | 291 => 115 | n => n, fun | 37 => 22 | 4 => 4 | 3 => 3 | 0 => 0 | 5 => 5 | 46 => 148 | 9 => 9 | 146 => 150 | 51 => 149 | n => n, fun | 1 => 0 | n => n⟩
theorem Try.laysM186 : Go.Proofs.LaysM.n186 Try.prog Try.laysM186_ren := {
  mixed := by kernel_rfl
  f115 := Try.func103.trans (congrArg some (by kernel_rfl))
  f185 := Try.func109.trans (congrArg some (by kernel_rfl))
  f186 := Try.func105.trans (congrArg some (by kernel_rfl))
  f187 := Try.func110.trans (congrArg some (by kernel_rfl))
  f224 := Try.func112.trans (congrArg some (by kernel_rfl))
  f253 := Try.func111.trans (congrArg some (by kernel_rfl))
  f254 := Try.func113.trans (congrArg some (by kernel_rfl))
  f255 := Try.func114.trans (congrArg some (by kernel_rfl))
  f291 := Try.func115.trans (congrArg some (by kernel_rfl))
  t0 := Try.underlying0
  a0 := Try.isAgg0
  z0 := Try.sizeOf0
  v0 := Try.zeroValue0
  t3 := Try.underlying3
  a3 := Try.isAgg3
  z3 := Try.sizeOf3
  v3 := Try.zeroValue3
  t4 := Try.underlying4
  a4 := Try.isAgg4
  z4 := Try.sizeOf4
  v4 := Try.zeroValue4
  t5 := Try.underlying5
  a5 := Try.isAgg5
  z5 := Try.sizeOf5
  v5 := Try.zeroValue5
  t9 := Try.underlying9
  a9 := Try.isAgg9
  z9 := Try.sizeOf9
  v9 := Try.zeroValue9
  t37 := Try.underlying22
  a37 := Try.isAgg22
  z37 := Try.sizeOf22
  v37 := Try.zeroValue22
  t46 := Try.underlying148
  a46 := Try.isAgg148
  z46 := Try.sizeOf148
  v46 := Try.zeroValue148
  t51 := Try.underlying149
  a51 := Try.isAgg149
  z51 := Try.sizeOf149
  v51 := Try.zeroValue149
  t146 := Try.underlying150
  a146 := Try.isAgg150
  z146 := Try.sizeOf150
  v146 := Try.zeroValue150
  g1 := by kernel_rfl
  i0 := by kernel_rfl
  i3 := by kernel_rfl
  i4 := by kernel_rfl
  i5 := by kernel_rfl
  i9 := by kernel_rfl
  i37 := by kernel_rfl
  i46 := by kernel_rfl
  i51 := by kernel_rfl
  i146 := by kernel_rfl
  m1 := by kernel_rfl
  s1_3 := fun w h => Go.Proofs.cell_of_shapedOpen_int (zero := #[.int .i64 0]) (t := 3) h (of_decide_eq_true (by kernel_rfl)) (by kernel_rfl) rfl (by kernel_rfl) (by kernel_rfl) Try.underlying3 }
open Go.Proofs Go.RowKit Go.Lib in
theorem Try.bytes_Contains_at_shaped (a1 a2 : Addr) (n c1 k c2 : Nat) (xs ys : List Int) (w : World) (hx : xs.length = n) (hy : ys.length = k) (hr1 : ∀ x ∈ xs, 0 ≤ x ∧ x < 256) (hr2 : ∀ y ∈ ys, 0 ≤ y ∧ y < 256) (hc1 : ∀ i, i < n → w.cell? (a1.add i) = some (.int .u8 (xs.getD i 0))) (hc2 : ∀ i, i < k → w.cell? (a2.add i) = some (.int .u8 (ys.getD i 0))) (hcap : n ≤ c1) (hs : n < 4294967281) (hk : k ≤ 9223372036854775807) (h : w.ShapedOpen Try.prog) :
    Calls Try.prog 105 #[.slice (some a1) n c1, .slice (some a2) k c2] w fun e w' => e = .returned (.bool (Lib.contains (Lib.bytesOf xs) (Lib.bytesOf ys))) ∧ ∃ q, w' = w.drewN q := Any.bytes_Contains_at_shaped Try.laysM186 a1 a2 n c1 k c2 xs ys w hx hy hr1 hr2 hc1 hc2 hcap hs hk h
end Go.Proofs
