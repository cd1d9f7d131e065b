/-
  The walk of the law ViewReads, of chapter 30.
  Conditions: the table of powers of ten lies as laid ('Pow').
-/
import Derived.Test.YtjfpepinmbbnbaaDoorReadsV
import Derived.Deep.DeepMust
namespace Go.Proofs.YtjfpepinmbbnbaaDoor
open Go.RowKit
set_option linter.unusedVariables false
set_option linter.unusedSimpArgs false
theorem WaitsRaw.below {w w' : World} {a : Option Addr} {l : List Wt} (h : WaitsRaw w a l) (hb : Below w.heap.size w w') : WaitsRaw w' a l := fun h0 => by
  obtain ⟨b, o, e, hl, hr⟩ := h h0
  refine ⟨b, o, e, Nat.lt_of_lt_of_le hl hb.size, fun i hi => ?_⟩
  obtain ⟨h1, h2, h3, h4⟩ := hr i hi
  exact ⟨(hb.cell (p := ⟨b, o + i * 2, none⟩) hl).trans h1, (hb.cell (p := ⟨b, o + i * 2 + 1, none⟩) hl).trans h2, h3.below hb, h4⟩
theorem FilesRaw.below {w w' : World} {a : Option Addr} {l : List Fb} (h : FilesRaw w a l) (hb : Below w.heap.size w w') : FilesRaw w' a l := fun h0 => by
  obtain ⟨b, o, e, hl, hr⟩ := h h0
  refine ⟨b, o, e, Nat.lt_of_lt_of_le hl hb.size, fun i hi => ?_⟩
  obtain ⟨h1, h2, h3, h4⟩ := hr i hi
  exact ⟨(hb.cell (p := ⟨b, o + i * 2, none⟩) hl).trans h1, (hb.cell (p := ⟨b, o + i * 2 + 1, none⟩) hl).trans h2, h3.below hb, h4⟩
theorem RawAt.below {w w' : World} {s : StC} {b : StB} (h : RawAt w s b) (hb : Below w.heap.size w w') : RawAt w' s b :=
  { h with
    patAt := h.patAt.below hb, holdAt := h.holdAt.below hb, restAt := h.restAt.below hb, outAt := h.outAt.below hb, placeAt := h.placeAt.below hb,
    waitsAt := h.waitsAt.below hb, filesAt := h.filesAt.below hb }
theorem cell_al {w : World} {o : Obj} {b i : Nat} {v : Value} (h : b < w.heap.size) (hc : w.cell? ⟨b, i, none⟩ = some v) : (w.alloc o).cell? ⟨b, i, none⟩ = some v := ((bl_alloc (Below.refl w.heap.size w) o).cell (p := ⟨b, i, none⟩) h).trans hc
theorem StrsAt.cell1 {t : ByteArray} {w : World} {b o c : Nat} (hc : w.cell? ⟨b, o, none⟩ = some (.string t)) (hg : b < w.heap.size) : StrsAt w (.slice (some ⟨b, o, none⟩) 1 c) [t] :=
  ⟨_, c, rfl, (fun h => by cases h), fun _ => ⟨b, o, rfl, hg, fun i hi => by
    have hi0 : i = 0 := by simp only [List.length_cons, List.length_nil] at hi; omega
    subst hi0
    exact hc⟩⟩
theorem own_ne {w : World} {base e k : Nat} {v : Value} {ts : List ByteArray} (h : w.ownsRow base e 1 v k (ts.map Value.string)) {g : Nat} {t : ByteArray} (hc : w.cell? ⟨g, 0, none⟩ = some (.string t)) (x : ByteArray) (h0 : ts[0]? = some x) (hx : x ≠ t) : v.ownBlock ≠ some g := fun e => by
  rcases own_cells h with ⟨c, rfl, _⟩ | ⟨g', cap, rfl, _, hg, hcs⟩
  · cases e
  · obtain rfl := Option.some.inj (show some g' = some g from e)
    have h1 := hcs 0 (.string x) (by simp [h0])
    rw [hc] at h1
    simp at h1
    exact hx h1.symm
theorem qS_ne (l : List UInt8) : qS l ≠ ⟨#[119, 97, 105, 116, 115]⟩ := fun h => by
  have : (quoteS l).toArray = #[119, 97, 105, 116, 115] := congrArg ByteArray.data h
  have := congrArg (fun a : Array UInt8 => a[0]?) this
  simp [quoteS] at this
theorem lit_new (w : World) (e : TypeId) : ∀ j (h : j < 3), (w.alloc (.cells #[.string ⟨#[119, 97, 105, 116, 115]⟩, .string ⟨#[102, 105, 108, 101, 115]⟩, .string ⟨#[114, 101, 103, 115]⟩] e)).cell? ⟨w.heap.size, j, none⟩ = some (.string (whats[j]'h)) := fun j h => by
  have hc := (Blk.new w e [.string ⟨#[119, 97, 105, 116, 115]⟩, .string ⟨#[102, 105, 108, 101, 115]⟩, .string ⟨#[114, 101, 103, 115]⟩]).cell j
  refine hc.trans ?_
  rcases j with _ | _ | _ | j
  · rfl
  · rfl
  · rfl
  · omega
theorem qS_size (l : List UInt8) (h : l.length ≤ 3000) : (qS l).size ≤ 1000000 := by
  have := quoteS_len l
  show (quoteS l).toArray.size ≤ _
  rw [List.size_toArray]; omega
theorem allRows_le {w : World} {s : StC} {b : StB} (h : StAt w s b) : ∀ t ∈ allRows s b 3, t.size ≤ 1000000 := by
  intro t ht
  simp only [allRows, rowsK, List.take, List.flatten_cons, List.flatten_nil, List.append_nil, List.mem_append, List.mem_cons, List.not_mem_nil, or_false] at ht
  rcases ht with (rfl | rfl) | ht | ht | rfl
  · exact qS_size _ h.patL
  · exact qS_size _ h.outL
  · obtain ⟨x, hx, rfl⟩ := List.mem_map.1 ht
    obtain ⟨i, hi, rfl⟩ := List.mem_iff_getElem.1 hx
    obtain ⟨_, _, _, _, hr⟩ := h.waitsAt (by omega)
    exact waitS_le _ (hr i hi).2.2.2
  · obtain ⟨x, hx, rfl⟩ := List.mem_map.1 ht
    obtain ⟨i, hi, rfl⟩ := List.mem_iff_getElem.1 hx
    obtain ⟨_, _, _, _, hr⟩ := h.filesAt (by omega)
    exact fileS_le _ (hr i hi).2.2.1 (hr i hi).2.2.2
  · exact regs_le s h.ok
/-- Unquote of a quote -/
theorem unq_back (l : List UInt8) (hl : l.length ≤ 3000) (W : World) : Calls Tryd.prog 33 #[.string (qS l), .int .i64 0] W fun e w' => ∃ a c p, e = .returned (.tuple #[.slice a l.length c, .int .i64 p, .int .i64 0]) ∧ BytesAt w' a l ∧ Below W.heap.size W w' := by
  have h := runquote_any (quoteS l) 0 (by omega) (by have := quoteS_len l; omega) W
  refine h.mono fun e w' ⟨v, he, ho, hb⟩ => ?_
  obtain ⟨h1, h2⟩ := unquote_quote l
  rw [h1] at ho
  obtain ⟨a, c, rfl, hB⟩ := bytes_own ho
  exact ⟨a, c, _, by rw [he, h2], hB, hb⟩
/-- what a call keeps: the state's block -/
abbrev KS (W1 : World) (g : Nat) (cs : Array Value) (w' : World) : Prop := Below W1.heap.size W1 w' ∧ w'.heap[g]? = some (.cells cs 66 (0, 0))
set_option maxHeartbeats 4000000 in
set_option maxRecDepth 100000 in
theorem reads_main (s : StC) (b : StB) (name : ByteArray) (hn : name.size ≤ 300) (w : World) (hp : Pow w) (hraw : RawAt w s b) (hg : greatB s b = false) :
    Calls Tryd.prog 11 #[.agg s.cells.toArray, .string name] w fun e w' => e = .returned (.bool true) ∧ Below w.heap.size w w' := by
  have hst := hraw.small hg
  obtain ⟨i0, hi, hz0, hz1, hz2⟩ := info_parts info9_
  have hz := (Blk.new w 66 s.cells)
  have hb1 : Below w.heap.size w (w.alloc (.cells s.cells.toArray 66)) := bl_alloc (Below.refl _ _) _
  obtain ⟨W1, hW1⟩ : ∃ W1, w.alloc (.cells s.cells.toArray 66) = W1 := ⟨_, rfl⟩
  rw [hW1] at hz hb1
  have hlt := hz.lt
  have up : ∀ w', Below W1.heap.size W1 w' → Below w.heap.size w w' := fun w' h => bl_trans hb1 h
  have hinfo : (Tryd.prog.info? 66).map (·.size) = some s.cells.toArray.size := by kernel_rfl
  have hblk : ∀ w', Below W1.heap.size W1 w' → w'.heap[w.heap.size]? = some (.cells s.cells.toArray 66 (0, 0)) := fun w' h => (hz.below h)
  have f1 := Lib.hid (fun w' (h : Below W1.heap.size W1 w') => hg ▸ great_any s b w' (hraw.below (up w' h)))
  have f2 := Lib.hid (fun w' (h : Below W1.heap.size W1 w') => (show_any s b ⟨#[112, 97, 116, 116, 101, 114, 110]⟩ w' (hp.below (up w' h)) (hst.below (up w' h))).mono (R' := OneS (qS b.pat) w') (fun e w2 he => ShowIs.one he))
  have f3 := Lib.hid (fun w' (h : Below W1.heap.size W1 w') => (show_any s b ⟨#[111, 117, 116]⟩ w' (hp.below (up w' h)) (hst.below (up w' h))).mono (R' := OneS (qS b.out) w') (fun e w2 he => ShowIs.one he))
  have f4 := Lib.hid (fun w' (h : Below W1.heap.size W1 w') => awake30 w' (hp.below (up w' h)))
  have f5 := Lib.hid (fun w' => unq_back b.pat hst.patL w')
  have f6 := Lib.hid (fun w' => unq_back b.out hst.outL w')
  have f7 := Lib.hid (fun w' (a : Option Addr) (c : Nat) (h : Below W1.heap.size W1 w') (hx : BytesAt w' a b.pat) => (same_bytes a s.pat.a c s.pat.c b.pat b.pat w' (by have := hst.patL; omega) (by have := hst.patL; omega) hx (hst.patAt.below (up w' h))).mono (R' := fun e w2 => e = .returned (.bool true) ∧ Below w'.heap.size w' w2) (fun e w2 ⟨he, m, hm⟩ => ⟨by rw [he]; simp, hm ▸ bl_drewN (Below.refl _ _) m⟩))
  have f8 := Lib.hid (fun w' (a : Option Addr) (c : Nat) (h : Below W1.heap.size W1 w') (hx : BytesAt w' a b.out) => (same_bytes a s.out.a c s.out.c b.out b.out w' (by have := hst.outL; omega) (by have := hst.outL; omega) hx (hst.outAt.below (up w' h))).mono (R' := fun e w2 => e = .returned (.bool true) ∧ Below w'.heap.size w' w2) (fun e w2 ⟨he, m, hm⟩ => ⟨by rw [he]; simp, hm ▸ bl_drewN (Below.refl _ _) m⟩))
  have hcell := Lib.hid (fun (W : World) (hW : Below W1.heap.size W1 W) => (⟨hst.patN ▸ (hz.below hW).cell 0, hst.outN ▸ (hz.below hW).cell 11⟩ : W.cell? ⟨w.heap.size, 0, none⟩ = some (.slice s.pat.a b.pat.length s.pat.c) ∧ W.cell? ⟨w.heap.size, 11, none⟩ = some (.slice s.out.a b.out.length s.out.c)))
  have f9 := Lib.hid (fun (k : Nat) (hk : k < 3) w' (h : Below W1.heap.size W1 w') => (show_any s b (whats[k]'hk) w' (hp.below (up w' h)) (hst.below (up w' h))).mono (R' := ManyS ((rowsK s b)[k]'hk) w') (fun e w2 he => ShowIs.many (by rw [rowsK_is s b k hk] at he; exact he)))
  have hsn := Lib.hid (allRows_seen s b 3)
  have hsl := Lib.hid (allRows_le hst)
  have hln := Lib.hid (fun k => allRows_len s b hst.waitsL hst.filesL k)
  have hsc := Lib.hid (fun (k : Nat) (hk : k < 3) => allRows_succ s b k hk)
  replace up := Lib.hid up
  replace hblk := Lib.hid hblk
  replace hinfo := Lib.hid hinfo
  have hns : (name.size : Int) ≤ 300 := by omega
  clear hz
  generalize hcs : s.cells.toArray = cs at *
  replace hcs := Lib.hid hcs
  go_enter Tryd.func11, Tryd.ntmps11
  have hB := Below.refl W1.heap.size W1
  go_upto_region 11 with (first
    | (with_reducible refine wpList_load_row rfl 66 (.tmp 2) rfl w.heap.size rfl 66 cs (0, 0) _ (hblk.out _ hB) Tryd.underlying66 rfl hinfo.out ?_)
    | (go_at_call 31; refine (f1.out _ hB).mono ?_; rintro e w2 ⟨rfl, hB2⟩; replace hB := bl_trans hB hB2; clear hB2)
    | (go_at_call 32; first
      | ((with_reducible refine (f2.out _ hB).mono ?_); rintro e w2 ⟨b1, o1, c1, rfl, hA, lA, hB2⟩; replace hB := bl_trans hB hB2; clear hB2)
      | ((with_reducible refine (f3.out _ hB).mono ?_); rintro e w3 ⟨b2, o2, c2, rfl, hC, lC, hB2⟩; replace hA := (hB2.cell (p := ⟨b1, o1, none⟩) lA).trans hA; replace lA := Nat.lt_of_lt_of_le lA hB2.size; replace hB := bl_trans hB hB2; clear hB2))
    | (go_at_call 33; first
      | ((with_reducible refine (f5.out _).mono ?_); rintro e w4 ⟨a3, c3, p3, rfl, hX, hB2⟩; replace hA := (hB2.cell (p := ⟨b1, o1, none⟩) lA).trans hA; replace lA := Nat.lt_of_lt_of_le lA hB2.size; replace hC := (hB2.cell (p := ⟨b2, o2, none⟩) lC).trans hC; replace lC := Nat.lt_of_lt_of_le lC hB2.size; replace hX := Lib.hid hX; replace hB := bl_trans hB hB2; clear hB2)
      | ((with_reducible refine (f6.out _).mono ?_); rintro e w5 ⟨a4, c4, p4, rfl, hY, hB2⟩; replace hA := (hB2.cell (p := ⟨b1, o1, none⟩) lA).trans hA; replace lA := Nat.lt_of_lt_of_le lA hB2.size; replace hC := (hB2.cell (p := ⟨b2, o2, none⟩) lC).trans hC; replace lC := Nat.lt_of_lt_of_le lC hB2.size; replace hX := Lib.hid (hX.out.below hB2); replace hY := Lib.hid hY; replace hB := bl_trans hB hB2; clear hB2; obtain ⟨k0, k11⟩ := hcell.out _ hB))
    | (go_at_call 34; first
      | ((with_reducible refine (f7.out _ _ _ hB hX.out).mono ?_); rintro e w6 ⟨rfl, hB2⟩; replace hA := (hB2.cell (p := ⟨b1, o1, none⟩) lA).trans hA; replace lA := Nat.lt_of_lt_of_le lA hB2.size; replace hC := (hB2.cell (p := ⟨b2, o2, none⟩) lC).trans hC; replace lC := Nat.lt_of_lt_of_le lC hB2.size; replace hY := Lib.hid (hY.out.below hB2); replace hB := bl_trans hB hB2; clear hB2 k0 k11; obtain ⟨k0, k11⟩ := hcell.out _ hB)
      | ((with_reducible refine (f8.out _ _ _ hB hY.out).mono ?_); rintro e w7 ⟨rfl, hB2⟩; replace hA := (hB2.cell (p := ⟨b1, o1, none⟩) lA).trans hA; replace lA := Nat.lt_of_lt_of_le lA hB2.size; replace hC := (hB2.cell (p := ⟨b2, o2, none⟩) lC).trans hC; replace lC := Nat.lt_of_lt_of_le lC hB2.size; replace hB := bl_trans hB hB2; clear hB2 k0 k11)))
  clear f1 f2 f3 f5 f6 f7 f8 hX hY hcell hW1 hns
  have hz7 := hB.size
  have hownA := Lib.hid (World.ownsRow_made (base := W1.heap.size) (e := 9) (size := 1) w7 #[] 0 hz7 (by decide) rfl)
  have nA : b1 ≠ w7.heap.size := by omega
  have nC : b2 ≠ w7.heap.size := by omega
  go_wp2_with (first
    | (at_builtin; (refine wpList_append_strs rfl (.tmp 94) (.tmp 95) 68 rfl W1.heap.size 9 i0 (.string ⟨#[]⟩) Tryd.underlying68 hi hz0 hz1 hz2 rfl _ _ _ rfl hownA.out _ [qS b.pat] rfl (StrsAt.cell1 (cell_al lA hA) (by simp; omega)) (by simp) (by simp; omega) ?_); intro v8 w8 hown8 hgrow8)
    | (at_builtin; go_must (refine wpList_append_strs rfl (.tmp 96) (.tmp 97) 68 rfl W1.heap.size 9 i0 (.string ⟨#[]⟩) Tryd.underlying68 hi hz0 hz1 hz2 rfl _ _ _ rfl hown8 _ [qS b.out] rfl (StrsAt.cell1 (hgrow8.cell (cell_al lC hC) (fun e => nC (Option.some.inj e))) (Nat.lt_of_lt_of_le lC (Nat.le_trans (by simp) hgrow8.size))) (by simp) (Nat.le_trans hz7 (Nat.le_trans (by simp) hgrow8.size)) ?_); intro v9 w9 hown9 hgrow9))
  have hB9 : Below W1.heap.size W1 w9 := (((hB.alloc hz7 _).grown hgrow8 (Nat.le_trans hz7 (by simp)) (fun j hj => (hownA.out.lt j hj).1))).grown hgrow9 (Nat.le_trans hz7 (Nat.le_trans (by simp) hgrow8.size)) (fun j hj => (hown8.lt j hj).1)
  have hown9' : w9.ownsRow W1.heap.size 9 1 v9 (allRows s b 0).length ((allRows s b 0).map Value.string) := hown9
  have hz9 := hB9.size
  replace hown9' := Lib.hid (hown9'.alloc (.cells #[.string ⟨#[119, 97, 105, 116, 115]⟩, .string ⟨#[102, 105, 108, 101, 115]⟩, .string ⟨#[114, 101, 103, 115]⟩] 9))
  clear hown9 hown8 hownA hgrow8 hgrow9 hA hC lA lC nA nC
  have hB9' := Lib.hid (hB9.alloc hz9 (.cells #[.string ⟨#[119, 97, 105, 116, 115]⟩, .string ⟨#[102, 105, 108, 101, 115]⟩, .string ⟨#[114, 101, 103, 115]⟩] 9))
  clear hB hB9
  have hli := Lib.hid (lit_new w9 9)
  go_loopg [15, 101] 3 (fun gh v i wr => ∃ k : Nat, gh = 3 - k ∧ i = .int .i64 (k : Int) ∧ k ≤ 3 ∧ Hid (wr.ownsRow W1.heap.size 9 1 v (allRows s b k).length ((allRows s b k).map Value.string)) ∧ Hid (Below W1.heap.size W1 wr) ∧ Hid ((∀ j (h : j < 3), wr.cell? ⟨w9.heap.size, j, none⟩ = some (.string (whats[j]'h))) ∧ w9.heap.size < wr.heap.size))
  case atStart => exact ⟨0, rfl, rfl, by omega, hown9', hB9', Lib.hid ⟨hli.out, by simp⟩⟩
  case round =>
    obtain ⟨k, rfl, rfl, hk, hown, hb, hlit⟩ := hrel
    by_cases hlt3 : k < 3
    · have e0 := hlit.out.1 k hlt3
      have l0 := hlit.out.2
      have hl1 := hln.out (k + 1)
      rw [hsc.out k hlt3, List.length_append] at hl1
      have hsz := hb.out.size
      go_wp2_with (first
        | (with_reducible refine wpList_load_row rfl 66 (.tmp 2) rfl w.heap.size rfl 66 cs (0, 0) _ (hblk.out _ hb.out) Tryd.underlying66 rfl hinfo.out ?_)
        | (go_at_call 32; (with_reducible refine (f9.out k hlt3 _ hb.out).mono ?_); rintro e w2 ⟨vm, rfl, hS, hB2⟩; have hown2 := own_blw hown.out hB2; have hbb := bl_trans hb.out hB2; have hzb := hbb.size; have hlit2 := Lib.hid (fun (j : Nat) (h : j < 3) => (hB2.cell (p := ⟨w9.heap.size, j, none⟩) l0).trans (hlit.out.1 j h)); have l2 := Nat.lt_of_lt_of_le l0 hB2.size; clear hB2)
        | (at_builtin; refine wpList_append_strs rfl (.tmp 113) (.tmp 114) 68 rfl W1.heap.size 9 i0 (.string ⟨#[]⟩) Tryd.underlying68 hi hz0 hz1 hz2 rfl _ _ _ rfl hown2 _ ((rowsK s b)[k]'hlt3) rfl hS (by omega) hzb ?_; intro v3 w3 hown3 hgrow3))
      have hne := own_ne hown2 (hlit2.out 0 (by decide)) (qS b.pat) rfl (qS_ne _)
      all_goals go_roundg (3 - (k + 1))
      case measure => omega
      case rel => exact ⟨k + 1, rfl, by go_num, by omega, Lib.hid (by rw [hsc.out k hlt3, List.map_append, List.length_append]; exact hown3), Lib.hid (hbb.grown hgrow3 hzb (fun j hj => (hown2.lt j hj).1)), Lib.hid ⟨fun j h => hgrow3.cell (hlit2.out j h) (fun e => hne e.symm), Nat.lt_of_lt_of_le l2 hgrow3.size⟩⟩
    · obtain rfl : k = 3 := by omega
      have hpos : 0 < (allRows s b 3).length := by simp [allRows]
      have hL := hln.out 3
      clear hln hsc f9 hlit hli hblk hinfo hcs
      obtain ⟨wo, hwo⟩ : ∃ wo : World, wo = wr := ⟨_, rfl⟩
      subst hwo
      generalize allRows s b 3 = L at *
      rcases own_cells hown.out with ⟨c, _, h0⟩ | ⟨g, cap, rfl, hcap, hg, hc⟩
      · omega
      clear hown
      have hcs := Lib.hid (fun (i : Nat) (h : i < L.length) => (hc i (.string L[i]) (by simp [h])))
      clear hc
      go_wp2_with fail
      go_loopg [20] L.length (fun gh i wx => ∃ k : Nat, gh = L.length - k ∧ i = .int .i64 (k : Int) ∧ k ≤ L.length ∧ wx = wo)
      case atStart => exact ⟨0, rfl, rfl, by omega, rfl⟩
      case round =>
        obtain ⟨k, rfl, rfl, hk, rfl⟩ := hrel
        by_cases hlt4 : k < L.length
        · have e0 := hcs.out k hlt4
          have hst4 := hsn.out L[k] (List.getElem_mem hlt4)
          have hts := hsl.out L[k] (List.getElem_mem hlt4)
          obtain ⟨t, ht⟩ : ∃ t, L[k] = t := ⟨_, rfl⟩
          rw [ht] at e0 hst4 hts
          rw [Nat.zero_add] at e0
          replace hst4 := Lib.hid hst4
          go_wp2_with fail
          obtain ⟨wo, hwo⟩ : ∃ wo : World, wo = wr := ⟨_, rfl⟩
          subst hwo
          go_loopg [21] t.size (fun gh j wx => ∃ m : Nat, gh = t.size - m ∧ j = .int .i64 (m : Int) ∧ m ≤ t.size ∧ wx = wo)
          case atStart => exact ⟨0, rfl, rfl, by omega, rfl⟩
          case round =>
            obtain ⟨m, rfl, rfl, hm, rfl⟩ := hrel
            by_cases hlt5 : m < t.size
            · have hx := hst4.out t[m] (by show t.data[m] ∈ t.data.toList; simp)
              have u1 : (32 : Int) ≤ t[m].toNat := by omega
              have u2 : (t[m].toNat : Int) ≤ 126 := by omega
              clear hx
              go_wp2_with fail
              all_goals go_roundg (t.size - (m + 1))
              case measure => omega
              case rel => exact ⟨m + 1, rfl, by go_num, by omega, rfl⟩
            · obtain rfl : m = t.size := by omega
              go_wp2_with fail
              go_roundg (L.length - (k + 1))
              case measure => omega
              case rel => exact ⟨k + 1, rfl, by go_num, by omega, rfl⟩
        · obtain rfl : k = L.length := by omega
          go_wp2_with (go_at_call 26; refine (f4.out _ hb.out).mono ?_; rintro e w7 ⟨rfl, hb7⟩)
          all_goals go_ret
          all_goals exact ⟨rfl, up.out _ (bl_trans hb.out hb7)⟩
set_option maxHeartbeats 4000000 in
set_option maxRecDepth 100000 in
theorem reads_great (s : StC) (b : StB) (name : ByteArray) (hs : name.size ≤ maxLen) (w : World) (hp : Pow w) (hraw : RawAt w s b) (hg : greatB s b = true ∨ (greatB s b = false ∧ 300 < name.size)) :
    Calls Tryd.prog 11 #[.agg s.cells.toArray, .string name] w fun e w' => e = .returned (.bool true) ∧ Below w.heap.size w w' := by
  have hz := (Blk.new w 66 s.cells)
  have hb1 : Below w.heap.size w (w.alloc (.cells s.cells.toArray 66)) := bl_alloc (Below.refl _ _) _
  obtain ⟨W1, hW1⟩ : ∃ W1, w.alloc (.cells s.cells.toArray 66) = W1 := ⟨_, rfl⟩
  rw [hW1] at hz hb1
  have hlt := hz.lt
  have hblk : W1.heap[w.heap.size]? = some (.cells s.cells.toArray 66 (0, 0)) := hz
  have hinfo : (Tryd.prog.info? 66).map (·.size) = some s.cells.toArray.size := by kernel_rfl
  have f1 := great_any s b W1 (hraw.below hb1)
  have f4 := Lib.hid (fun w' (h : Below W1.heap.size W1 w') => awake30 w' (hp.below (bl_trans hb1 h)))
  replace hblk := Lib.hid hblk
  replace hinfo := Lib.hid hinfo
  clear hz hraw hp
  generalize s.cells.toArray = cs at *
  rcases hg with hg | ⟨hg, hg'⟩
  all_goals
    rw [hg] at f1
    replace f1 := Lib.hid f1
    go_enter Tryd.func11, Tryd.ntmps11
    go_wp2_with (first
      | (with_reducible refine wpList_load_row rfl 66 (.tmp 2) rfl w.heap.size rfl 66 cs (0, 0) _ hblk.out Tryd.underlying66 rfl hinfo.out ?_)
      | (go_at_call 31; refine f1.out.mono ?_; rintro e w2 ⟨rfl, hB⟩)
      | (go_at_call 26; refine (f4.out _ hB).mono ?_; rintro e w7 ⟨rfl, hb7⟩))
    all_goals go_ret
    all_goals exact ⟨rfl, bl_trans hb1 (bl_trans hB hb7)⟩
theorem viewReads_walk (W : World) (hp : Pow W) (cs : Array Value) (x) (h : rState.ok (Sub.all W) cs.toList x) (name : ByteArray) (hs : name.size ≤ maxLen) :
    Calls Tryd.prog 11 #[.agg cs, .string name] W fun e w' => e = .returned (.bool true) ∧ Below W.heap.size W w' := by
  obtain ⟨s, b, hc, hraw⟩ := raw_of h
  obtain rfl : cs = s.cells.toArray := by rw [← hc]
  by_cases hg : greatB s b = true
  · exact reads_great s b name hs W hp hraw (.inl hg)
  · have hg' : greatB s b = false := by simpa using hg
    by_cases hn : name.size ≤ 300
    · exact reads_main s b name hn W hp hraw hg'
    · exact reads_great s b name hs W hp hraw (.inr ⟨hg', by omega⟩)
end Go.Proofs.YtjfpepinmbbnbaaDoor
