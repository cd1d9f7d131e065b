/-
  view.Show behind its region, of chapter 30.
  Conditions: as each theorem states them.
-/
import Derived.Test.YtjfpepinmbbnbaaDoorShowM
import Derived.Test.YtjfpepinmbbnbaaDoorStAt
namespace Go.Proofs.YtjfpepinmbbnbaaDoor
open Go.RowKit
set_option linter.unusedVariables false
set_option linter.unusedSimpArgs false
theorem lit46 (ts : Array Value) (h : ts.size = 46) : ∃ u0 u1 u2 u3 u4 u5 u6 u7 u8 u9 u10 u11 u12 u13 u14 u15 u16 u17 u18 u19 u20 u21 u22 u23 u24 u25 u26 u27 u28 u29 u30 u31 u32 u33 u34 u35 u36 u37 u38 u39 u40 u41 u42 u43 u44 u45, ts = #[u0, u1, u2, u3, u4, u5, u6, u7, u8, u9, u10, u11, u12, u13, u14, u15, u16, u17, u18, u19, u20, u21, u22, u23, u24, u25, u26, u27, u28, u29, u30, u31, u32, u33, u34, u35, u36, u37, u38, u39, u40, u41, u42, u43, u44, u45] := by
  obtain ⟨l⟩ := ts
  simp only [List.size_toArray] at h
  obtain _ | ⟨u0, l⟩ := l; · simp at h
  obtain _ | ⟨u1, l⟩ := l; · simp at h
  obtain _ | ⟨u2, l⟩ := l; · simp at h
  obtain _ | ⟨u3, l⟩ := l; · simp at h
  obtain _ | ⟨u4, l⟩ := l; · simp at h
  obtain _ | ⟨u5, l⟩ := l; · simp at h
  obtain _ | ⟨u6, l⟩ := l; · simp at h
  obtain _ | ⟨u7, l⟩ := l; · simp at h
  obtain _ | ⟨u8, l⟩ := l; · simp at h
  obtain _ | ⟨u9, l⟩ := l; · simp at h
  obtain _ | ⟨u10, l⟩ := l; · simp at h
  obtain _ | ⟨u11, l⟩ := l; · simp at h
  obtain _ | ⟨u12, l⟩ := l; · simp at h
  obtain _ | ⟨u13, l⟩ := l; · simp at h
  obtain _ | ⟨u14, l⟩ := l; · simp at h
  obtain _ | ⟨u15, l⟩ := l; · simp at h
  obtain _ | ⟨u16, l⟩ := l; · simp at h
  obtain _ | ⟨u17, l⟩ := l; · simp at h
  obtain _ | ⟨u18, l⟩ := l; · simp at h
  obtain _ | ⟨u19, l⟩ := l; · simp at h
  obtain _ | ⟨u20, l⟩ := l; · simp at h
  obtain _ | ⟨u21, l⟩ := l; · simp at h
  obtain _ | ⟨u22, l⟩ := l; · simp at h
  obtain _ | ⟨u23, l⟩ := l; · simp at h
  obtain _ | ⟨u24, l⟩ := l; · simp at h
  obtain _ | ⟨u25, l⟩ := l; · simp at h
  obtain _ | ⟨u26, l⟩ := l; · simp at h
  obtain _ | ⟨u27, l⟩ := l; · simp at h
  obtain _ | ⟨u28, l⟩ := l; · simp at h
  obtain _ | ⟨u29, l⟩ := l; · simp at h
  obtain _ | ⟨u30, l⟩ := l; · simp at h
  obtain _ | ⟨u31, l⟩ := l; · simp at h
  obtain _ | ⟨u32, l⟩ := l; · simp at h
  obtain _ | ⟨u33, l⟩ := l; · simp at h
  obtain _ | ⟨u34, l⟩ := l; · simp at h
  obtain _ | ⟨u35, l⟩ := l; · simp at h
  obtain _ | ⟨u36, l⟩ := l; · simp at h
  obtain _ | ⟨u37, l⟩ := l; · simp at h
  obtain _ | ⟨u38, l⟩ := l; · simp at h
  obtain _ | ⟨u39, l⟩ := l; · simp at h
  obtain _ | ⟨u40, l⟩ := l; · simp at h
  obtain _ | ⟨u41, l⟩ := l; · simp at h
  obtain _ | ⟨u42, l⟩ := l; · simp at h
  obtain _ | ⟨u43, l⟩ := l; · simp at h
  obtain _ | ⟨u44, l⟩ := l; · simp at h
  obtain _ | ⟨u45, l⟩ := l; · simp at h
  obtain _ | ⟨x, l⟩ := l
  · exact ⟨u0, u1, u2, u3, u4, u5, u6, u7, u8, u9, u10, u11, u12, u13, u14, u15, u16, u17, u18, u19, u20, u21, u22, u23, u24, u25, u26, u27, u28, u29, u30, u31, u32, u33, u34, u35, u36, u37, u38, u39, u40, u41, u42, u43, u44, u45, rfl⟩
  · simp at h
theorem key_ne {a b : ByteArray} (h : (a == b) = true) (c : ByteArray) (hc : (b == c) = false) : (a == c) = false := by
  rw [ba_eq h]; exact hc
/-- what the lookup gives at each key -/
theorem shR_is (G : ShG) (what : ByteArray) (s : StC) (b : StB) :
    (shR G what = (clo G.p0, true) ∧ showS s b what = some [qS b.pat]) ∨ (shR G what = (clo G.p1, true) ∧ showS s b what = some [qS b.hold]) ∨ (shR G what = (clo G.p2, true) ∧ showS s b what = some [qS b.rest]) ∨ (shR G what = (clo G.p3, true) ∧ showS s b what = some [qS b.out]) ∨ (shR G what = (clo G.p4, true) ∧ showS s b what = some [qS b.place]) ∨
    (shR G what = (fnV 66, true) ∧ showS s b what = some [regsS s]) ∨ (shR G what = (fnV 67, true) ∧ showS s b what = some (b.waits.map waitS)) ∨ (shR G what = (fnV 68, true) ∧ showS s b what = some ((b.files.map (·.fl)).map fileS)) ∨ (shR G what = (.nilFunc, false) ∧ showS s b what = none) := by
  unfold shR showS shT
  simp only [fS_cons, Bool.and_eq_true]
  simp only [rep_true (show 6 < 42 by omega), rep_true (show 12 < 42 by omega), rep_true (show 18 < 42 by omega), rep_true (show 24 < 42 by omega), rep_true (show 30 < 42 by omega), rep_true (show 31 < 42 by omega), rep_true (show 32 < 42 by omega), rep_true (show 33 < 42 by omega), true_and]
  by_cases h1 : (what == ⟨#[112, 97, 116, 116, 101, 114, 110]⟩) = true
  · simp [h1]
  by_cases h2 : (what == ⟨#[104, 111, 108, 100]⟩) = true
  · simp [h1, h2]
  by_cases h3 : (what == ⟨#[114, 101, 115, 116]⟩) = true
  · simp [h1, h2, h3]
  by_cases h4 : (what == ⟨#[111, 117, 116]⟩) = true
  · simp [h1, h2, h3, h4]
  by_cases h5 : (what == ⟨#[112, 108, 97, 99, 101]⟩) = true
  · simp [h1, h2, h3, h4, h5]
  by_cases h6 : (what == ⟨#[114, 101, 103, 115]⟩) = true
  · simp [h1, h2, h3, h4, h5, h6]
  by_cases h7 : (what == ⟨#[119, 97, 105, 116, 115]⟩) = true
  · simp [h1, h2, h3, h4, h5, h6, h7]
  by_cases h8 : (what == ⟨#[102, 105, 108, 101, 115]⟩) = true
  · simp [h1, h2, h3, h4, h5, h6, h7, h8]
  · simp [h1, h2, h3, h4, h5, h6, h7, h8, fS]
end Go.Proofs.YtjfpepinmbbnbaaDoor
