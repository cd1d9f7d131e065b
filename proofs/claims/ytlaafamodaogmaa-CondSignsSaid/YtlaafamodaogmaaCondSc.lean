/-
  The conditions on the second text, at a quote; of chapter 27; lists alone.
  Conditions: as each theorem states them.
-/
import Derived.Test.YtlaafamodaogmaaCondSb
import Derived.Test.YtlaafamodaogmaaQuotQ
namespace Go.Proofs.Ytlaafamodaogmaa.CM
open SH (quoteS quoteB unq_full)
set_option linter.unusedVariables false
set_option linter.unusedSimpArgs false
theorem next_quote {s t : List UInt8} {a k : Nat} (hs : s.drop a = List.replicate k 32 ++ quoteS t) (ha : a ≤ s.length) : nextS s a = .ok (⟨3, a + k, 0, t⟩, s.length) := by
  have hsk : skip s a = a + k := by
    unfold skip
    rw [hs, List.takeWhile_append_of_pos (by intro x hx; rw [List.eq_of_mem_replicate hx]; rfl)]
    simp [List.takeWhile_cons, quoteS, blank]
  have hdr : s.drop (a + k) = 34 :: (t.flatMap quoteB ++ 34 :: []) := by
    rw [← List.drop_drop, hs]; simp [quoteS]
  have hlen : s.length = a + k + (1 + (t.flatMap quoteB).length + 1) := by
    have := congrArg List.length hs
    simp only [List.length_drop, List.length_append, List.length_replicate, quoteS, List.length_cons, List.length_nil] at this
    omega
  have hq : unquoteS s ((a + k : Nat) : Int) = (t, ((a + k + 1 + (t.flatMap quoteB).length + 1 : Nat) : Int), 0) := by
    unfold unquoteS
    rw [if_neg (by omega), show (((a + k : Nat) : Int)).toNat = a + k by omega, hdr]
    simp only
    rw [if_neg (by simp), unq_full t [] (a + k + 1) []]
    rfl
  unfold nextS
  rw [hsk, hdr]
  unfold pieceS
  simp only [show low 34 = false from rfl, show dig 34 = false from rfl, if_true, Bool.false_eq_true, if_false, hq]
  congr 2
  rw [hlen]; omega
abbrev hIs (t : List UInt8) : List UInt8 := [104, 111, 108, 100, 32, 105, 115] ++ quoteS t
abbrev hHas (t : List UInt8) : List UInt8 := [104, 111, 108, 100, 32, 104, 97, 115, 32] ++ quoteS t
theorem quote_len (t : List UInt8) : (quoteS t).length ≤ 4 * t.length + 2 := by
  have := SH.flat_len t
  simp only [quoteS, List.length_cons, List.length_append, List.length_nil]; omega
theorem parse_is (t : List UInt8) (hl : t.length ≤ 100) : parseS (hIs t) = .ok (fun _ now => now.hold == t) := by
  have hq := quote_len t
  have hlen : (hIs t).length = 7 + (quoteS t).length := by simp [hIs]; omega
  exact parse_txt (b := 7) rfl rfl (next_quote (k := 0) rfl (by omega)) (next_stop _) (by omega)
theorem parse_hasq (t : List UInt8) (hl : t.length ≤ 100) : parseS (hHas t) = .ok (fun _ now => hasS now.hold t) := by
  have hq := quote_len t
  have hlen : (hHas t).length = 9 + (quoteS t).length := by simp [hHas]; omega
  exact parse_has (b := 8) rfl rfl (next_quote (k := 1) rfl (by omega)) (next_stop _) (by omega)
/-- a piece of a text stands in it -/
theorem has_piece (b : List UInt8) (p q : Nat) (hpq : p ≤ q) (hq : q ≤ b.length) : hasS b ((b.drop p).take (q - p)) = true := by
  rcases Lib.index_spec b ((b.drop p).take (q - p)) with ⟨_, h⟩ | ⟨i, h, _⟩
  · have := h p (by omega)
    unfold Lib.occAt at this
    rw [List.isPrefixOf_iff_prefix.2 (List.take_prefix _ _)] at this
    cases this
  · unfold hasS
    rw [h]
    simp
end Go.Proofs.Ytlaafamodaogmaa.CM
