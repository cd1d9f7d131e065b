/-
  The walk of the law ViewReads, of chapter 30.
  Conditions: the table of powers of ten lies as laid ('Pow').
-/
import Derived.Test.YtjfpepinmbbnbaaDoorShowV
import Derived.Test.YtjfpepinmbbnbaaDoorRaw
import Derived.Test.YtjfpepinmbbnbaaDoorSeen
import Derived.Test.YtjfpepinmbbnbaaDoorSame
import Derived.Test.YtjfpepinmbbnbaaDoorUnqR
namespace Go.Proofs.YtjfpepinmbbnbaaDoor
open Go.RowKit
set_option linter.unusedVariables false
set_option linter.unusedSimpArgs false
/-- a slice that the call made, as a row of bytes -/
theorem bytes_own {w : World} {base e : Nat} {v : Value} {xs : List UInt8} (h : w.ownsRow base e 1 v xs.length (Lib.byteCells xs)) : ∃ a c, v = .slice a xs.length c ∧ BytesAt w a xs := by
  rcases own_cells h with ⟨c, rfl, h0⟩ | ⟨g, cap, rfl, hcap, hg, hc⟩
  · exact ⟨none, c, by rw [h0], fun h => by omega⟩
  · refine ⟨_, cap, rfl, fun h0 => ⟨g, 0, rfl, hg, fun i hi => ?_⟩⟩
    exact hc i _ (by simp [Lib.byteCells, hi])
/-- one text is shown -/
def OneS (t : ByteArray) (w : World) (e : Ending) (w' : World) : Prop := ∃ b o c, e = .returned (.tuple #[.slice (some ⟨b, o, none⟩) 1 c, .bool true]) ∧ w'.cell? ⟨b, o, none⟩ = some (.string t) ∧ b < w'.heap.size ∧ Below w.heap.size w w'
theorem ShowIs.one {t : ByteArray} {w w' : World} {e : Ending} (h : ShowIs (some [t]) w e w') : OneS t w e w' := by
  obtain ⟨v, rfl, ⟨a, c, rfl, _, hr⟩, hb⟩ := h
  obtain ⟨b, o, rfl, hl, hc⟩ := hr (by simp)
  exact ⟨b, o, c, rfl, hc 0 (by simp), hl, hb⟩
/-- many texts are shown -/
def ManyS (ts : List ByteArray) (w : World) (e : Ending) (w' : World) : Prop := ∃ v, e = .returned (.tuple #[v, .bool true]) ∧ StrsAt w' v ts ∧ Below w.heap.size w w'
theorem ShowIs.many {ts : List ByteArray} {w w' : World} {e : Ending} (h : ShowIs (some ts) w e w') : ManyS ts w e w' := h
/-- the words that are shown in the loop, and their rows -/
def whats : List ByteArray := [⟨#[119, 97, 105, 116, 115]⟩, ⟨#[102, 105, 108, 101, 115]⟩, ⟨#[114, 101, 103, 115]⟩]
def rowsK (s : StC) (b : StB) : List (List ByteArray) := [b.waits.map waitS, (b.files.map (·.fl)).map fileS, [regsS s]]
theorem rowsK_is (s : StC) (b : StB) (k : Nat) (h : k < 3) : showS s b (whats[k]'h) = some ((rowsK s b)[k]'h) := by
  rcases k with _ | _ | _ | k
  · rfl
  · rfl
  · rfl
  · omega
def allRows (s : StC) (b : StB) (k : Nat) : List ByteArray := [qS b.pat, qS b.out] ++ ((rowsK s b).take k).flatten
theorem allRows_succ (s : StC) (b : StB) (k : Nat) (h : k < 3) : allRows s b (k + 1) = allRows s b k ++ (rowsK s b)[k]'h := by
  unfold allRows
  rw [List.take_succ_eq_append_getElem (show k < (rowsK s b).length from h), List.flatten_append, ← List.append_assoc]
  simp
  rfl
theorem allRows_len (s : StC) (b : StB) (hw : b.waits.length ≤ 3000) (hf : b.files.length ≤ 3000) (k : Nat) : (allRows s b k).length ≤ 7000 := by
  have : (allRows s b k).length ≤ (allRows s b 3).length := by
    unfold allRows
    rw [List.length_append, List.length_append]
    have : ((rowsK s b).take k).flatten.length ≤ ((rowsK s b).take 3).flatten.length := by
      rcases k with _ | _ | _ | k
      · simp
      · simp [rowsK]
      · simp [rowsK]
      · simp [rowsK]
    omega
  have h3 : (allRows s b 3).length = 2 + (b.waits.length + (b.files.length + 1)) := by simp [allRows, rowsK]; omega
  omega
theorem allRows_seen (s : StC) (b : StB) (k : Nat) : ∀ t ∈ allRows s b k, Seen t := by
  intro t ht
  unfold allRows at ht
  rcases List.mem_append.1 ht with ht | ht
  · simp only [List.mem_cons, List.not_mem_nil, or_false] at ht
    rcases ht with rfl | rfl <;> exact quote_seenB _
  · obtain ⟨l, hl, ht⟩ := List.mem_flatten.1 ht
    have hl' := List.mem_of_mem_take hl
    obtain ⟨i, hi, rfl⟩ := List.mem_iff_getElem.1 hl'
    exact rows_seen s b _ _ (rowsK_is s b i hi) t ht
end Go.Proofs.YtjfpepinmbbnbaaDoor
