/-
  view.File and the reference's File, of chapter 30.
  Conditions: as each theorem states them.
-/
import Derived.Test.YtjfpepinmbbnbaaDoorStAt
import Derived.Test.YtjfpepinmbbnbaaDoorShow3
import Derived.Deep.LoopGhost
namespace Go.Proofs.YtjfpepinmbbnbaaDoor
open Go.RowKit
set_option linter.unusedVariables false
set_option linter.unusedSimpArgs false
/-- the place of the first file of a name; as many as there are: there is none -/
def atI (l : List Fl) (name : ByteArray) : Nat := l.findIdx (fun x => (⟨x.name.toArray⟩ : ByteArray) == name)
theorem atI_is {l : List Fl} {name : ByteArray} {k : Nat} (h : k < l.length) (hp : ((⟨l[k].name.toArray⟩ : ByteArray) == name) = true) (hn : ∀ j (hj : j < k), ((⟨(l[j]'(by omega)).name.toArray⟩ : ByteArray) == name) = false) : atI l name = k := by
  unfold atI
  rw [List.findIdx_eq h]
  exact ⟨hp, fun j hj => hn j hj⟩
theorem atI_none {l : List Fl} {name : ByteArray} (hn : ∀ j (hj : j < l.length), ((⟨l[j].name.toArray⟩ : ByteArray) == name) = false) : atI l name = l.length := by
  unfold atI
  rw [List.findIdx_eq_length]
  intro x hx
  obtain ⟨j, hj, rfl⟩ := List.mem_iff_getElem.1 hx
  exact hn j hj
/-- the place as a number -/
def atN (l : List Fl) (name : ByteArray) : Int := if atI l name < l.length then (atI l name : Int) else -1
theorem atN_is {l : List Fl} {name : ByteArray} {k : Nat} (h : k < l.length) (hp : ((⟨l[k].name.toArray⟩ : ByteArray) == name) = true) (hn : ∀ j (hj : j < k), ((⟨(l[j]'(by omega)).name.toArray⟩ : ByteArray) == name) = false) : atN l name = k := by
  unfold atN; rw [atI_is h hp hn, if_pos h]
theorem atN_none {l : List Fl} {name : ByteArray} (hn : ∀ j (hj : j < l.length), ((⟨l[j].name.toArray⟩ : ByteArray) == name) = false) : atN l name = -1 := by
  unfold atN; rw [atI_none hn, if_neg (by omega)]
set_option maxHeartbeats 2000000 in
theorem rat_any (a : Option Addr) (c : Nat) (l : List Fl) (name : ByteArray) (w : World) (hl : l.length ≤ 1000000) (ha : FilesAt w a l) :
    Calls Tryd.prog 75 #[.slice a l.length c, .string name] w fun e w' => e = .returned (.int .i64 (atN l name)) ∧ w' = w := by
  obtain ⟨n, hn⟩ : ∃ n, l.length = n := ⟨_, rfl⟩
  have hret : ∀ k (h : k < l.length), ((⟨l[k].name.toArray⟩ : ByteArray) == name) = true → (∀ j (hj : j < k), ((⟨(l[j]'(by omega)).name.toArray⟩ : ByteArray) == name) = false) → Ending.returned (.int .i64 (k : Int)) = .returned (.int .i64 (atN l name)) := fun k h hp hq => by rw [atN_is h hp hq]
  have hnone : (∀ j (hj : j < l.length), ((⟨l[j].name.toArray⟩ : ByteArray) == name) = false) → Ending.returned (.int .i64 (-1)) = .returned (.int .i64 (atN l name)) := fun hq => by rw [atN_none hq]
  generalize atN l name = R at *
  replace hret := Lib.hid hret
  replace hnone := Lib.hid hnone
  replace ha := Lib.hid ha
  rw [hn] at hl ⊢
  replace hn := Lib.hid hn
  go_enter Tryd.func75, Tryd.ntmps75
  go_wp2_with fail
  go_loopg [5] n (fun gh i wr => ∃ k : Nat, gh = n - k ∧ i = .int .i64 (k : Int) ∧ k ≤ n ∧ Hid (∀ j (hj : j < k) (hj' : j < l.length), ((⟨l[j].name.toArray⟩ : ByteArray) == name) = false) ∧ wr = w)
  case atStart => exact ⟨0, rfl, rfl, by omega, Lib.hid (fun j hj => by omega), rfl⟩
  case round =>
    obtain ⟨k, rfl, rfl, hk, hq, hw⟩ := hrel
    subst hw
    by_cases hlt : k < n
    · have hlt' : k < l.length := by rw [hn.out]; exact hlt
      obtain ⟨b, o, rfl, hbl, hc⟩ := ha.out (by omega)
      have e0 := (hc k hlt').1
      clear hc
      unfold strV at e0
      obtain ⟨x, hx⟩ : ∃ x, (⟨l[k].name.toArray⟩ : ByteArray) = x := ⟨_, rfl⟩
      rw [hx] at e0
      replace hx := Lib.hid hx
      cases hp : x == name
      · have hp' := hp
        rw [beq_toListBytes] at hp'
        replace hp := Lib.hid hp
        go_wp2_with fail
        all_goals go_roundg (n - (k + 1))
        case measure => omega
        case rel => exact ⟨k + 1, rfl, by go_num, by omega, Lib.hid (fun j hj hj' => by
          by_cases h : j = k
          · subst h; rw [hx.out]; exact hp.out
          · exact hq.out j (by omega) hj'), rfl⟩
      · have hp' := hp
        rw [beq_toListBytes] at hp'
        replace hp := Lib.hid hp
        go_wp2_with fail
        all_goals go_ret
        all_goals exact ⟨hret.out k hlt' (by rw [hx.out]; exact hp.out) (fun j hj => hq.out j hj (by omega)), rfl⟩
    · obtain rfl : k = n := by omega
      go_wp2_with fail
      go_ret
      exact ⟨hnone.out (fun j hj => hq.out j (by rw [← hn.out]; exact hj) hj), rfl⟩
set_option maxHeartbeats 1000000 in
theorem fileclo_any (x : ByteArray) (a : Option Addr) (n c : Nat) (p : Nat) (name : ByteArray) (w : World) (hc : w.cell? ⟨p, 0, none⟩ = some (.string name)) :
    Calls Tryd.prog 74 #[.agg #[.string x, .slice a n c], .pointer (some ⟨p, 0, none⟩)] w fun e w' => e = .returned (.bool (x == name)) ∧ Below w.heap.size w w' := by
  have hp := World.block_lt_of_cell? w _ hc
  simp only at hp
  obtain ⟨W1, hW1⟩ : ∃ W1, w.alloc (.cells #[.string x, .slice a n c] 78) = W1 := ⟨_, rfl⟩
  have hb1 : Below w.heap.size w W1 := hW1 ▸ bl_alloc (Below.refl _ _) _
  have c1 := (hb1.cell (p := ⟨p, 0, none⟩) hp).trans hc
  have c2 : W1.cell? ⟨w.heap.size, 0, none⟩ = some (.string x) := hW1 ▸ (Blk.new w 78 [.string x, .slice a n c]).cell 0
  clear hc
  go_enter Tryd.func74, Tryd.ntmps74
  go_wp2_with fail
  go_ret
  exact ⟨by rw [beq_toListBytes]; rfl, hb1⟩
/-- the closure of view.File -/
def fclo (p : Nat) : Value := .func (.func 74) #[] #[.pointer (some ⟨p, 0, none⟩)]
set_option maxHeartbeats 4000000 in
theorem findex_any (a : Option Addr) (c : Nat) (l : List Fl) (name : ByteArray) (p : Nat) (w : World) (hl : l.length ≤ 1000000) (ha : FilesAt w a l) (hc : w.cell? ⟨p, 0, none⟩ = some (.string name)) :
    Calls Tryd.prog 73 #[.slice a l.length c, fclo p] w fun e w' => e = .returned (.int .i64 (atN l name)) ∧ Below w.heap.size w w' := by
  obtain ⟨n, hn⟩ : ∃ n, l.length = n := ⟨_, rfl⟩
  have hp := World.block_lt_of_cell? w _ hc
  simp only at hp
  have hret : ∀ k (h : k < l.length), ((⟨l[k].name.toArray⟩ : ByteArray) == name) = true → (∀ j (hj : j < k), ((⟨(l[j]'(by omega)).name.toArray⟩ : ByteArray) == name) = false) → Ending.returned (.int .i64 (k : Int)) = .returned (.int .i64 (atN l name)) := fun k h hp hq => by rw [atN_is h hp hq]
  have hnone : (∀ j (hj : j < l.length), ((⟨l[j].name.toArray⟩ : ByteArray) == name) = false) → Ending.returned (.int .i64 (-1)) = .returned (.int .i64 (atN l name)) := fun hq => by rw [atN_none hq]
  have hcl := Lib.hid (fun (x : ByteArray) (a : Option Addr) (n c : Nat) w' (h : Below w.heap.size w w') => fileclo_any x a n c p name w' ((h.cell (p := ⟨p, 0, none⟩) hp).trans hc))
  generalize atN l name = R at *
  replace hret := Lib.hid hret
  replace hnone := Lib.hid hnone
  replace ha := Lib.hid ha
  rw [hn] at hl ⊢
  replace hn := Lib.hid hn
  clear hc
  unfold fclo
  go_enter Tryd.func73, Tryd.ntmps73
  go_wp2_with fail
  go_loopg [8] n (fun gh i wr => ∃ k : Nat, gh = n - k ∧ i = .int .i64 (k : Int) ∧ k ≤ n ∧ Hid (∀ j (hj : j < k) (hj' : j < l.length), ((⟨l[j].name.toArray⟩ : ByteArray) == name) = false) ∧ Hid (Below w.heap.size w wr))
  case atStart => exact ⟨0, rfl, rfl, by omega, Lib.hid (fun j hj => by omega), Lib.hid (Below.refl _ _)⟩
  case round =>
    obtain ⟨k, rfl, rfl, hk, hq, hb⟩ := hrel
    by_cases hlt : k < n
    · have hlt' : k < l.length := by rw [hn.out]; exact hlt
      obtain ⟨b, o, rfl, hbl, hc⟩ := ha.out (by omega)
      have e0 := (hb.out.cell (p := ⟨b, o + k * 2, none⟩) hbl).trans (hc k hlt').1
      have e1 := (hb.out.cell (p := ⟨b, o + k * 2 + 1, none⟩) hbl).trans (hc k hlt').2.1
      clear hc
      unfold strV at e0
      obtain ⟨x, hx⟩ : ∃ x, (⟨l[k].name.toArray⟩ : ByteArray) = x := ⟨_, rfl⟩
      rw [hx] at e0
      replace hx := Lib.hid hx
      have hcl2 := hcl.out x l[k].a l[k].n l[k].c wr hb.out
      generalize l[k].a = xa at *
      generalize l[k].n = xn at *
      generalize l[k].c = xc at *
      cases hp : x == name
      · rw [hp] at hcl2
        replace hcl2 := Lib.hid hcl2
        go_wp2_with (go_at_call 74; refine hcl2.out.mono ?_; rintro e w2 ⟨rfl, hb2⟩)
        all_goals go_roundg (n - (k + 1))
        case measure => omega
        case rel => exact ⟨k + 1, rfl, by go_num, by omega, Lib.hid (fun j hj hj' => by
          by_cases h : j = k
          · subst h; rw [hx.out]; exact hp
          · exact hq.out j (by omega) hj'), Lib.hid (bl_trans hb.out hb2)⟩
      · rw [hp] at hcl2
        replace hcl2 := Lib.hid hcl2
        go_wp2_with (go_at_call 74; refine hcl2.out.mono ?_; rintro e w2 ⟨rfl, hb2⟩)
        all_goals go_ret
        all_goals exact ⟨hret.out k hlt' (by rw [hx.out]; exact hp) (fun j hj => hq.out j hj (by omega)), bl_trans hb.out hb2⟩
    · obtain rfl : k = n := by omega
      go_wp2_with fail
      go_ret
      exact ⟨hnone.out (fun j hj => hq.out j (by rw [← hn.out]; exact hj) hj), hb.out⟩
/-- what is shown of a file -/
def fileQ (b : StB) (name : ByteArray) : Option ByteArray := if h : atI (b.files.map (·.fl)) name < b.files.length then some (qS (b.files[atI (b.files.map (·.fl)) name]'h).bytes) else none
def FileIs (R : Option ByteArray) (w : World) (e : Ending) (w' : World) : Prop := e = .returned (.tuple #[.string (R.getD ⟨#[]⟩), .bool R.isSome]) ∧ Below w.heap.size w w'
theorem file_cell {w : World} {s : StC} {b : StB} (h : StAt w s b) (k : Nat) (hk : k < b.files.length) : ∃ bb o, s.files.a = some ⟨bb, o, none⟩ ∧ bb < w.heap.size ∧ w.cell? ⟨bb, o + k * 2 + 1, none⟩ = some (.slice b.files[k].fl.a b.files[k].bytes.length b.files[k].fl.c) ∧ b.files[k].bytes.length ≤ 3000 ∧ BytesAt w b.files[k].fl.a b.files[k].bytes := by
  obtain ⟨bb, o, e, hl, hr⟩ := h.filesAt (by rw [List.length_map]; omega)
  obtain ⟨h1, h2, h3⟩ := h.bytesAt b.files[k] (List.getElem_mem hk)
  refine ⟨bb, o, e, hl, ?_, h2, h3⟩
  have := (hr k (by rw [List.length_map]; exact hk)).2.1
  rw [List.getElem_map, h1] at this
  exact this
set_option maxHeartbeats 4000000 in
set_option maxRecDepth 100000 in
theorem rfile_any (s : StC) (b : StB) (name : ByteArray) (w : World) (hst : StAt w s b) :
    Calls Tryd.prog 40 #[.agg s.cells.toArray, .string name] w (FileIs (fileQ b name) w) := by
  have hz := (Blk.new w 66 s.cells)
  have hb1 : Below w.heap.size w (w.alloc (.cells s.cells.toArray 66)) := bl_alloc (Below.refl _ _) _
  obtain ⟨W1, hW1⟩ : ∃ W1, w.alloc (.cells s.cells.toArray 66) = W1 := ⟨_, rfl⟩
  rw [hW1] at hz hb1
  have hlt := hz.lt
  have c25 : W1.cell? ⟨w.heap.size, 25, none⟩ = some (.slice s.files.a s.files.n s.files.c) := hz.cell 25
  have hnl : s.files.n = (b.files.map (·.fl)).length := by rw [List.length_map]; exact hst.filesN
  rw [hnl] at c25
  have hat := Lib.hid (rat_any s.files.a s.files.c (b.files.map (·.fl)) name W1 (by rw [List.length_map]; have := hst.filesL; omega) (hst.filesAt.below hb1))
  have hlm : (b.files.map (·.fl)).length = b.files.length := List.length_map _
  rw [hlm] at c25 hat
  obtain ⟨R, hR⟩ : ∃ R, fileQ b name = R := ⟨_, rfl⟩
  rw [hR]
  unfold fileQ at hR
  by_cases hk : atI (b.files.map (·.fl)) name < b.files.length
  · rw [dif_pos hk] at hR
    have hN : atN (b.files.map (·.fl)) name = ((atI (b.files.map (·.fl)) name : Nat) : Int) := by unfold atN; rw [hlm, if_pos hk]
    rw [hN] at hat
    obtain ⟨bb, o, ea, hbl, hc, h3, hB⟩ := file_cell hst _ hk
    rw [ea] at c25 hat
    generalize atI (b.files.map (·.fl)) name = k at *
    have d1 := (hb1.cell (p := ⟨bb, o + k * 2 + 1, none⟩) hbl).trans hc
    have hq := Lib.hid (rquote_any b.files[k].fl.a b.files[k].fl.c b.files[k].bytes W1 (by omega) (hB.below hb1))
    have hfl := hst.filesL
    have hbl1 : bb < W1.heap.size := Nat.lt_of_lt_of_le hbl hb1.size
    replace hR := Lib.hid hR
    clear hst hc hB hz hnl hlm hN ea
    generalize s.cells.toArray = cs at *
    generalize b.files[k] = f at *
    generalize b.files.length = n at *
    go_enter Tryd.func40, Tryd.ntmps40
    go_wp2_with (first
      | (go_at_call 75; refine hat.out.mono ?_; rintro e w2 ⟨rfl, rfl⟩)
      | (go_at_call 71; refine hq.out.mono ?_; rintro e w3 ⟨rfl, hb3⟩))
    all_goals go_ret2
    all_goals exact ⟨by rw [← hR.out]; rfl, bl_trans hb1 hb3⟩
  · rw [dif_neg hk] at hR
    have hN : atN (b.files.map (·.fl)) name = -1 := by unfold atN; rw [hlm, if_neg hk]
    rw [hN] at hat
    replace hR := Lib.hid hR
    have hfl := hst.filesL
    clear hst hz hnl hlm hN hk
    generalize s.cells.toArray = cs at *
    generalize b.files.length = n at *
    go_enter Tryd.func40, Tryd.ntmps40
    go_wp2_with (go_at_call 75; refine hat.out.mono ?_; rintro e w2 ⟨rfl, rfl⟩)
    all_goals go_ret2
    all_goals exact ⟨by rw [← hR.out]; rfl, hb1⟩
set_option maxHeartbeats 4000000 in
set_option maxRecDepth 100000 in
theorem file_any (s : StC) (b : StB) (name : ByteArray) (w : World) (hst : StAt w s b) :
    Calls Tryd.prog 39 #[.agg s.cells.toArray, .string name] w (FileIs (fileQ b name) w) := by
  have hz := (Blk.new w 66 s.cells)
  have hb0 : Below w.heap.size w (w.alloc (.cells s.cells.toArray 66)) := bl_alloc (Below.refl _ _) _
  obtain ⟨W0, hW0⟩ : ∃ W0, w.alloc (.cells s.cells.toArray 66) = W0 := ⟨_, rfl⟩
  rw [hW0] at hz hb0
  have hlt := hz.lt
  have hy := (Blk.new W0 9 [.string name])
  have hb01 : Below W0.heap.size W0 (W0.alloc (.cells [Value.string name].toArray 9)) := bl_alloc (Below.refl _ _) _
  obtain ⟨W1, hW1⟩ : ∃ W1, W0.alloc (.cells [Value.string name].toArray 9) = W1 := ⟨_, rfl⟩
  rw [hW1] at hy hb01
  have hz1 := hz.below hb01
  have hb1 := bl_trans hb0 hb01
  have ky : W1.cell? ⟨W0.heap.size, 0, none⟩ = some (.string name) := hy.cell 0
  have c25 : W1.cell? ⟨w.heap.size, 25, none⟩ = some (.slice s.files.a s.files.n s.files.c) := hz1.cell 25
  have hnl : s.files.n = (b.files.map (·.fl)).length := by rw [List.length_map]; exact hst.filesN
  rw [hnl] at c25
  have hat := (findex_any s.files.a s.files.c (b.files.map (·.fl)) name W0.heap.size W1 (by rw [List.length_map]; have := hst.filesL; omega) (hst.filesAt.below hb1) ky)
  have hlm : (b.files.map (·.fl)).length = b.files.length := List.length_map _
  rw [hlm] at c25 hat
  have hlt1 : w.heap.size < W1.heap.size := Nat.lt_of_lt_of_le hlt hb01.size
  have hk25 := Lib.hid (fun (w' : World) (h : Below W1.heap.size W1 w') => ((h.cell (p := ⟨w.heap.size, 25, none⟩) hlt1).trans c25))
  unfold fclo at hat
  obtain ⟨R, hR⟩ : ∃ R, fileQ b name = R := ⟨_, rfl⟩
  rw [hR]
  unfold fileQ at hR
  simp only [List.toArray] at hW1
  by_cases hk : atI (b.files.map (·.fl)) name < b.files.length
  · rw [dif_pos hk] at hR
    have hN : atN (b.files.map (·.fl)) name = ((atI (b.files.map (·.fl)) name : Nat) : Int) := by unfold atN; rw [hlm, if_pos hk]
    rw [hN] at hat
    replace hat := Lib.hid hat
    obtain ⟨bb, o, ea, hbl, hc, h3, hB⟩ := file_cell hst _ hk
    rw [ea] at c25 hat hk25
    generalize atI (b.files.map (·.fl)) name = k at *
    have hbl1 : bb < W1.heap.size := Nat.lt_of_lt_of_le hbl hb1.size
    have d1 := (hb1.cell (p := ⟨bb, o + k * 2 + 1, none⟩) hbl).trans hc
    have hq := Lib.hid (fun w' (h : Below w.heap.size w w') => quote_any b.files[k].fl.a b.files[k].fl.c b.files[k].bytes w' (by omega) (hB.below h))
    have hfl := hst.filesL
    replace hR := Lib.hid hR
    replace hb1 := Lib.hid hb1
    clear hst hc hB hz hz1 hnl hlm hN ea hy ky hb0 hb01
    generalize s.cells.toArray = cs at *
    generalize b.files[k] = f at *
    generalize b.files.length = n at *
    go_enter Tryd.func39, Tryd.ntmps39
    go_wp2_with (first
      | (go_at_call 73; refine hat.out.mono ?_; rintro e w2 ⟨rfl, hb2⟩; have d2 := (hb2.cell (p := ⟨bb, o + k * 2 + 1, none⟩) hbl1).trans d1; have c2 := hk25.out _ hb2; have hbl2 := Nat.lt_of_lt_of_le hbl1 hb2.size)
      | (go_at_call 65; refine (hq.out _ (bl_trans hb1.out hb2)).mono ?_; rintro e w3 ⟨rfl, hb3⟩))
    all_goals go_ret2
    all_goals exact ⟨by rw [← hR.out]; rfl, bl_trans (bl_trans hb1.out hb2) hb3⟩
  · rw [dif_neg hk] at hR
    have hN : atN (b.files.map (·.fl)) name = -1 := by unfold atN; rw [hlm, if_neg hk]
    rw [hN] at hat
    replace hat := Lib.hid hat
    replace hR := Lib.hid hR
    have hfl := hst.filesL
    replace hb1 := Lib.hid hb1
    clear hst hz hz1 hnl hlm hN hk hy ky hb0 hb01
    generalize s.cells.toArray = cs at *
    generalize b.files.length = n at *
    go_enter Tryd.func39, Tryd.ntmps39
    go_wp2_with (go_at_call 73; refine hat.out.mono ?_; rintro e w2 ⟨rfl, hb2⟩)
    all_goals go_ret2
    all_goals exact ⟨by rw [← hR.out]; rfl, bl_trans hb1.out hb2⟩
end Go.Proofs.YtjfpepinmbbnbaaDoor
