/-
  The contract of Parse, of chapter 29: the way through its words.
  Conditions: as each theorem states them.
-/
import Derived.Test.YtjfpepinmbbnbaaDoorOrd8
import Derived.Test.YtjfpepinmbbnbaaDoorOrd5
import Derived.Test.YtjfpepinmbbnbaaDoorOrd6
import Derived.Test.YtjfpepinmbbnbaaDoorOrd7
import Derived.Deep.AppendLies
import Derived.Stop.RegionWithIn
import Derived.Deep.DeepMust
namespace Go.Proofs.YtjfpepinmbbnbaaDoor
open Go.RowKit Go.Shelf
set_option linter.unusedVariables false
set_option linter.unusedSimpArgs false
attribute [local go_sem] Oper.semAt_some
theorem wordsStops (Bs : Nat) (L : List UInt8) (S : Nat → Prop) (hL : L.length ≤ 100000) (w : World) (hBs : Bs < w.heap.size) (hBS : ¬ S Bs) (hc : w.cell? ⟨Bs, 0, none⟩ = some (strV L)) :
    SeqStopsK Fence.wide 3 Tryd.prog 80 #[.pointer (some ⟨Bs, 0, none⟩)] (fun x : Item => #[Value.int .i64 (x.1 : Int), strV x.2]) (Only S) (fun ys => ys = OM.wds 0 L)
      (fun pre => ∃ k, k ≤ (OM.wds 0 L).length ∧ pre = (OM.wds 0 L).take k) (OM.wds 0 L).length w := fun l J Jx W hW _ _ hY h0 =>
  words_in l Bs L S hL hBS J Jx hY W (Nat.lt_of_lt_of_le hBs hW.size) ((hW.cell (p := ⟨Bs, 0, none⟩) hBs).trans hc) h0
theorem words_any (L : List UInt8) (w : World) :
    Calls Tryd.prog 56 #[strV L] w fun e w' => e = .returned (.func (.func 80) #[] #[.pointer (some ⟨w.heap.size, 0, none⟩)]) ∧ w' = w.alloc (.cells #[strV L] 9) := by
  go_enter Tryd.func56, Tryd.ntmps56
  go_wp2
  go_ret
  exact ⟨rfl, rfl⟩
theorem wds_len : ∀ (n : Nat) (l : List UInt8) (p : Nat), l.length ≤ n → (OM.wds p l).length ≤ l.length := by
  intro n
  induction n with
  | zero => intro l p h; obtain rfl : l = [] := List.length_eq_zero_iff.1 (by omega); rw [OM.wds_nil]; simp
  | succ n ih =>
    intro l p h
    cases l with
    | nil => rw [OM.wds_nil]; simp
    | cons c r =>
      simp only [List.length_cons] at h
      by_cases hc : c = 32
      · subst hc; rw [OM.wds_blank]; have := ih r (p + 1) (by omega); simp; omega
      · rw [OM.wds_word _ _ _ hc]
        have hd := (List.dropWhile_sublist OM.nb (l := r)).length_le
        have := ih (r.dropWhile OM.nb) (p + 1 + (r.takeWhile OM.nb).length) (by omega)
        simp only [List.length_cons]; omega
theorem infoS_ : (Tryd.prog.info? 9).map (fun i => (i.zero, i.size, i.bytes)) = some (some (.string ⟨#[]⟩), 1, 16) := by kernel_rfl
theorem infoI_ : (Tryd.prog.info? 3).map (fun i => (i.zero, i.size, i.bytes)) = some (some (.int .i64 0), 1, 8) := by kernel_rfl
theorem ownsRow_turn {w w' : World} {row : Option Nat} {base e size n : Nat} {v : Value} {xs : List Value} (h : w.ownsRow base e size v n xs) (hg : w.grownBy w' row) (hr : ∀ r, row = some r → ∃ o : Obj, w.heap[r]? = some o ∧ o.isCells = false) : w'.ownsRow base e size v n xs := by
  refine ⟨h.1, ?_⟩
  rcases h.2 with h2 | ⟨g, cap, cur, h2, h3, h4, h5⟩
  · exact .inl h2
  · refine .inr ⟨g, cap, cur, h2, h3, (hg.block g (Array.getElem?_eq_some_iff.1 h4).1 (fun e => ?_)).trans h4, h5⟩
    obtain ⟨o, h6, h7⟩ := hr g e.symm
    rw [h4] at h6; cases h6; cases h7
def wv (pre : List Item) : List Value := pre.map fun x => strV x.2
def av (pre : List Item) : List Value := pre.map fun x => .int .i64 (x.1 : Int)
/-- the words so far, and where they begin -/
def WordsI (H B : Nat) (pre : List Item) (W : World) : Prop := ∃ v1 v2, Boxed W (H + 1) 68 v1 ∧ Boxed W (H + 1 + 1) 33 v2 ∧ W.ownsRow B 9 1 v1 pre.length (wv pre) ∧ W.ownsRow B 3 1 v2 pre.length (av pre)
def PK (H : Nat) (k : Nat) : Prop := k = H + 1 ∨ k = H + 1 + 1 ∨ H + 1 + 1 + 1 + 1 ≤ k
/-- the world in which the words are gone through -/
def W3 (w : World) (L : List UInt8) : World := (((w.alloc zeroO).alloc (.cells #[.slice none 0 0] 68)).alloc (.cells #[.slice none 0 0] 33)).alloc (.cells #[strV L] 9)
theorem W3_facts (w : World) (L : List UInt8) : Blk (W3 w L) w.heap.size 41 [.int .i64 0, .int .i64 0, .int .i64 0, .string ⟨#[]⟩] ∧ Boxed (W3 w L) (w.heap.size + 1) 68 (.slice none 0 0) ∧ Boxed (W3 w L) (w.heap.size + 1 + 1) 33 (.slice none 0 0) ∧
    Boxed (W3 w L) (w.heap.size + 1 + 1 + 1) 9 (strV L) ∧ (W3 w L).heap.size = w.heap.size + 1 + 1 + 1 + 1 ∧ Below w.heap.size w (W3 w L) := by
  unfold W3
  have B0 := (((Blk.new w 41 [.int .i64 0, .int .i64 0, .int .i64 0, .string ⟨#[]⟩]).alloc (.cells #[.slice none 0 0] 68)).alloc (.cells #[.slice none 0 0] 33)).alloc (.cells #[strV L] 9)
  have b1 := ((Boxed.new (w.alloc zeroO) 68 (.slice none 0 0)).alloc (.cells #[.slice none 0 0] 33)).alloc (.cells #[strV L] 9)
  have b2 := (Boxed.new ((w.alloc zeroO).alloc (.cells #[.slice none 0 0] 68)) 33 (.slice none 0 0)).alloc (.cells #[strV L] 9)
  have b3 := Boxed.new (((w.alloc zeroO).alloc (.cells #[.slice none 0 0] 68)).alloc (.cells #[.slice none 0 0] 33)) 9 (strV L)
  simp only [World.size_alloc] at b1 b2 b3
  exact ⟨B0, b1, b2, b3, by simp only [World.size_alloc], bl_alloc (bl_alloc (bl_alloc (bl_alloc (Below.refl _ _) _) _) _) _⟩
/-- an append held as one word: the walk does not open it -/
def AppSem (ats : Array TypeId) (ty : TypeId) (args : Array Value) : Sem Value := Builtin.append_ ats ty args
theorem app_hold (ats : Array TypeId) (ty : TypeId) (args : Array Value) : Builtin.append_ ats ty args = AppSem ats ty args := rfl
theorem upon_lies {F : Fence} {d : Nat} {P : Program} {o : Oper} {a : Act} {K : Act → World → Prop} {Q : Exit → Act → World → Prop} {f : Value → World → Result Next} (w : World)
    (t ty : TypeId) (base : Nat) (e : TypeId) (i : TypeInfo) (z : Value) (bytes : Nat) (ht : P.underlying t = some (.slice e)) (hi : P.info? e = some i) (hz : i.zero = some z)
    (hsize : i.size = 1) (hby : i.bytes = bytes) (hzs : z.cells.size = 1) (v : Value) (n : Nat) (xs : List Value) (hown : w.ownsRow base e 1 v n xs) (ad : Addr) (u : Value) (hu : w.cell? ad = some u) (h1 : u.oneCell' = true) (hs : ad.spot = none)
    (h63 : n + 1 ≤ maxLen) (hbytes : (n + 1) * bytes ≤ 140737488355328) (hbase : base ≤ w.heap.size)
    (h : ∀ g cap w', w'.ownsRow base e 1 (.slice (some ⟨g, 0, none⟩) (n + 1) cap) (n + 1) (xs ++ [u]) → w.grownBy w' v.ownBlock → Oper.uponIn F d P o a K Q (f (.slice (some ⟨g, 0, none⟩) (n + 1) cap) w')) :
    Oper.uponIn F d P o a K Q ((Sem.run P (AppSem #[t, t] ty #[v, .slice (some ad) 1 1]) w).andThen f) := by
  obtain ⟨g, cap, w', hr, h2, h3, _, _⟩ := run_append_lies (P := P) (w := w) t ty base e i z 1 bytes ht hi hz hsize hby hzs Nat.zero_lt_one v n xs hown ad 1 1 [u] rfl (fun j v' hj => by
    match j, hj with
    | 0, hj => simp at hj; subst hj; rw [show ad.add 0 = ad by simp [Addr.add]]; exact hu) (fun v' hv => by rw [List.mem_singleton] at hv; subst hv; exact h1) Nat.zero_lt_one h63 hbytes hbase _ rfl
  rw [show Sem.run P (AppSem #[t, t] ty #[v, .slice (some ad) 1 1]) w = _ from hr]
  exact h g cap w' h2 h3
/-- what the round leaves but for the two rows -/
def Rg (o1 o2 : Option Nat) (W X : World) : Prop := Only (fun k => o1 = some k ∨ o2 = some k) W X ∧ KeepsOthers W X
theorem Rg.refl (o1 o2 : Option Nat) (W : World) : Rg o1 o2 W W := ⟨Only.refl _ _, KeepsOthers.refl _⟩
theorem Rg.drew {o1 o2 : Option Nat} {W X : World} (h : Rg o1 o2 W X) : Rg o1 o2 W X.drew := ⟨h.1.drew, ⟨h.2.size, h.2.same⟩⟩
theorem Rg.alloc {o1 o2 : Option Nat} {W X : World} (h : Rg o1 o2 W X) (o : Obj) : Rg o1 o2 W (X.alloc o) := ⟨h.1.alloc o, h.2.trans (KeepsOthers.alloc _ _)⟩
theorem own_isCells {w : World} {base e size n g : Nat} {v : Value} {xs : List Value} (h : w.ownsRow base e size v n xs) (hv : v.ownBlock = some g) : ∃ cur fr, w.heap[g]? = some (.cells cur e fr) := by
  rcases h.2 with ⟨rfl, _⟩ | ⟨g', cap, cur, rfl, _, h4, _⟩
  · cases hv
  · injection hv with hv; subst hv; exact ⟨_, _, h4⟩
theorem Rg.grown {o1 o2 : Option Nat} {W X Y : World} (h : Rg o1 o2 W X) {base e n : Nat} {v : Value} {xs : List Value} (hown : X.ownsRow base e 1 v n xs) (hv : v.ownBlock = o1 ∨ v.ownBlock = o2) (hg : X.grownBy Y v.ownBlock) : Rg o1 o2 W Y := by
  refine ⟨h.1.trans ⟨hg.os, hg.tape, hg.output, hg.size, fun k hk hn => hg.block k hk (fun e => hn ?_)⟩, h.2.trans ⟨hg.size, fun k o hk ho => ?_⟩⟩
  · rcases hv with hv | hv
    · exact .inl (hv ▸ e.symm)
    · exact .inr (hv ▸ e.symm)
  · refine (hg.block k (Array.getElem?_eq_some_iff.1 hk).1 (fun e => ?_)).trans hk
    obtain ⟨cur, fr, hc⟩ := own_isCells hown e.symm
    rw [hc] at hk; cases hk; cases ho
theorem ownsRow_below {w w' : World} {base e size n : Nat} {v : Value} {xs : List Value} (h : w.ownsRow base e size v n xs) (hb : Below w.heap.size w w') : w'.ownsRow base e size v n xs := by
  refine ⟨h.1, ?_⟩
  rcases h.2 with h2 | ⟨g, cap, cur, h2, h3, h4, h5⟩
  · exact .inl h2
  · exact .inr ⟨g, cap, cur, h2, h3, (hb.block g (Array.getElem?_eq_some_iff.1 h4).1).trans h4, h5⟩
/-- the other row stays -/
theorem own_other {X Y : World} {base base' e e' n n' : Nat} {v v' : Value} {xs xs' : List Value} (h : X.ownsRow base e 1 v n xs) (h' : X.ownsRow base' e' 1 v' n' xs') (hne : e ≠ e') (hg : X.grownBy Y v.ownBlock) : Y.ownsRow base' e' 1 v' n' xs' := by
  refine ⟨h'.1, ?_⟩
  rcases h'.2 with h2 | ⟨g, cap, cur, h2, h3, h4, h5⟩
  · exact .inl h2
  · refine .inr ⟨g, cap, cur, h2, h3, (hg.block g (Array.getElem?_eq_some_iff.1 h4).1 (fun e => ?_)).trans h4, h5⟩
    obtain ⟨cur', fr, hc⟩ := own_isCells h e.symm
    rw [h4] at hc; cases hc; exact hne rfl
theorem Rg.size {o1 o2 : Option Nat} {W X : World} (h : Rg o1 o2 W X) : W.heap.size ≤ X.heap.size := h.1.size
theorem Rg.ofBelow {o1 o2 : Option Nat} {W X Y : World} (h : Rg o1 o2 W X) (hb : Below X.heap.size X Y) : Rg o1 o2 W Y :=
  ⟨h.1.trans (.of_below hb), h.2.trans ⟨hb.size, fun k o hk _ => (hb.block k (Array.getElem?_eq_some_iff.1 hk).1).trans hk⟩⟩
theorem app_step {o1 o2 : Option Nat} {W X Y : World} {B e e' n n' : Nat} {v v' : Value} {xs xs' : List Value} (hR : Rg o1 o2 W X) (h : X.ownsRow B e 1 v n xs) (h' : X.ownsRow B e' 1 v' n' xs') (hne : e ≠ e') (hv : v.ownBlock = o1 ∨ v.ownBlock = o2) (q : X.grownBy Y v.ownBlock) :
    Rg o1 o2 W Y ∧ Y.ownsRow B e' 1 v' n' xs' := ⟨hR.grown h hv q, own_other h h' hne q⟩
theorem Rg.box {W X : World} {B e1 e2 n1 n2 b t : Nat} {v1 v2 v : Value} {xs1 xs2 : List Value} (hR : Rg v1.ownBlock v2.ownBlock W X) (h1 : W.ownsRow B e1 1 v1 n1 xs1) (h2 : W.ownsRow B e2 1 v2 n2 xs2) (hb : Boxed W b t v) (d1 : e1 ≠ t) (d2 : e2 ≠ t) : Boxed X b t v := by
  refine (hR.1.block b (Array.getElem?_eq_some_iff.1 hb).1 ?_).trans hb
  rintro (e | e)
  · obtain ⟨cur, fr, hc⟩ := own_isCells h1 e
    rw [show W.heap[b]? = _ from hb] at hc; cases hc; exact d1 rfl
  · obtain ⟨cur, fr, hc⟩ := own_isCells h2 e
    rw [show W.heap[b]? = _ from hb] at hc; cases hc; exact d2 rfl
theorem own_lt {W : World} {B e n : Nat} {v : Value} {xs : List Value} (h : W.ownsRow B e 1 v n xs) (b : Nat) (hb : W.heap.size ≤ b) : some b ≠ v.ownBlock := fun e => by
  obtain ⟨cur, fr, hc⟩ := own_isCells h e.symm
  have := (Array.getElem?_eq_some_iff.1 hc).1
  omega
/-- the two words are stored -/
theorem words_step {H B : Nat} {pre : List Item} {x : Item} {W Z : World} {v1 v2 : Value} {gA cA gB cB : Nat} (hB : H + 1 + 1 < B) (h3 : W.ownsRow B 9 1 v1 pre.length (wv pre)) (h4 : W.ownsRow B 3 1 v2 pre.length (av pre)) (hR : Rg v1.ownBlock v2.ownBlock W Z)
    (h1 : Boxed Z (H + 1) 68 v1) (h2 : Boxed Z (H + 1 + 1) 33 v2)
    (o3 : Z.ownsRow B 9 1 (.slice (some ⟨gA, 0, none⟩) (pre.length + 1) cA) (pre.length + 1) (wv pre ++ [strV x.2]))
    (o4 : Z.ownsRow B 3 1 (.slice (some ⟨gB, 0, none⟩) (pre.length + 1) cB) (pre.length + 1) (av pre ++ [.int .i64 (x.1 : Int)])) {V : World} (hon : Only (PK H) V W) (hV : V.heap.size = H + 1 + 1 + 1 + 1) (hBV : B = V.heap.size) :
    KeepsFrom B W ((Z.setCell ⟨H + 1, 0, none⟩ (.slice (some ⟨gA, 0, none⟩) (pre.length + 1) cA)).setCell ⟨H + 1 + 1, 0, none⟩ (.slice (some ⟨gB, 0, none⟩) (pre.length + 1) cB)) ∧ Only (PK H) W ((Z.setCell ⟨H + 1, 0, none⟩ (.slice (some ⟨gA, 0, none⟩) (pre.length + 1) cA)).setCell ⟨H + 1 + 1, 0, none⟩ (.slice (some ⟨gB, 0, none⟩) (pre.length + 1) cB)) ∧ WordsI H B (pre ++ [x]) ((Z.setCell ⟨H + 1, 0, none⟩ (.slice (some ⟨gA, 0, none⟩) (pre.length + 1) cA)).setCell ⟨H + 1 + 1, 0, none⟩ (.slice (some ⟨gB, 0, none⟩) (pre.length + 1) cB)) ∧ Only (PK H) V ((Z.setCell ⟨H + 1, 0, none⟩ (.slice (some ⟨gA, 0, none⟩) (pre.length + 1) cA)).setCell ⟨H + 1 + 1, 0, none⟩ (.slice (some ⟨gB, 0, none⟩) (pre.length + 1) cB)) := by
  subst hBV
  have g1 := grownBy_setCell' Z (H + 1) (.slice (some ⟨gA, 0, none⟩) (pre.length + 1) cA)
  have p1 := h1.set (.slice (some ⟨gA, 0, none⟩) (pre.length + 1) cA)
  have p2 := h2.kept g1 (by simp)
  have q3 := o3.kept g1 (.inr (fun e => h1.not_row (by decide) o3 e.symm))
  have q4 := o4.kept g1 (.inr (fun e => h1.not_row (by decide) o4 e.symm))
  have g2 := grownBy_setCell' (Z.setCell ⟨H + 1, 0, none⟩ (.slice (some ⟨gA, 0, none⟩) (pre.length + 1) cA)) (H + 1 + 1) (.slice (some ⟨gB, 0, none⟩) (pre.length + 1) cB)
  have r1 := p1.kept g2 (by simp)
  have r2 := p2.set (.slice (some ⟨gB, 0, none⟩) (pre.length + 1) cB)
  have r3 := q3.kept g2 (.inr (fun e => p2.not_row (by decide) q3 e.symm))
  have r4 := q4.kept g2 (.inr (fun e => p2.not_row (by decide) q4 e.symm))
  have hz0 : Only (PK H) W Z := (hR.1.mono (fun k hk => by
    have : V.heap.size ≤ k := by
      rcases hk with e | e
      · rcases h3.2 with ⟨rfl, _⟩ | ⟨g, cap, cur, rfl, hb, _⟩
        · cases e
        · simp [Value.ownBlock] at e; omega
      · rcases h4.2 with ⟨rfl, _⟩ | ⟨g, cap, cur, rfl, hb, _⟩
        · cases e
        · simp [Value.ownBlock] at e; omega
    unfold PK; omega))
  have hz : Only (PK H) V Z := hon.trans hz0
  refine ⟨(hR.2.trans ((KeepsOthers.setCell _ _ _).trans (KeepsOthers.setCell _ _ _))).from _, (hz0.setCell (p := ⟨H + 1, 0, none⟩) (by simp [PK]) _).setCell (p := ⟨H + 1 + 1, 0, none⟩) (by simp [PK]) _, ⟨_, _, r1, r2, ?_, ?_⟩, (hz.setCell (p := ⟨H + 1, 0, none⟩) (by simp [PK]) _).setCell (p := ⟨H + 1 + 1, 0, none⟩) (by simp [PK]) _⟩
  · simpa [wv] using r3
  · simpa [av] using r4
theorem own_form {w : World} {B e n : Nat} {v : Value} {xs : List Value} (h : w.ownsRow B e 1 v n xs) : ∃ a c, v = .slice a n c := by
  rcases h.2 with ⟨rfl, h0⟩ | ⟨g, cap, cur, rfl, _⟩
  · exact ⟨none, 0, by rw [h0]⟩
  · exact ⟨_, _, rfl⟩
/-- where the words lie -/
theorem words_at {w : World} {B : Nat} {v : Value} (zs : List Item) (h : w.ownsRow B 9 1 v zs.length (wv zs)) (h0 : 0 < zs.length) :
    ∃ g c, v = .slice (some ⟨g, 0, none⟩) zs.length c ∧ B ≤ g ∧ g < w.heap.size ∧ zs.length ≤ c ∧ StrAt (fun _ => True) w (some ⟨g, 0, none⟩) (zs.map (·.2)) := by
  obtain ⟨g, c, rfl, hb, hl⟩ := h.form h0
  have hc : zs.length ≤ c := by
    rcases h.2 with ⟨e, _⟩ | ⟨g', c', cur, e, _, _, hc, _⟩
    · simp at e
    · simp only [Value.slice.injEq] at e; omega
  refine ⟨g, c, rfl, hb, hl, hc, fun _ => ⟨g, 0, rfl, trivial, hl, fun i hi => ?_⟩⟩
  rw [List.length_map] at hi
  rw [Nat.zero_add, h.cellAt i (by omega)]
  simp [wv, hi]
/-- where they begin -/
theorem begins_at {w : World} {B : Nat} {v : Value} (zs : List Item) (h : w.ownsRow B 3 1 v zs.length (av zs)) (h0 : 0 < zs.length) :
    ∃ g c, v = .slice (some ⟨g, 0, none⟩) zs.length c ∧ B ≤ g ∧ g < w.heap.size ∧ ∀ i (hi : i < zs.length), w.cell? ⟨g, i, none⟩ = some (.int .i64 (zs[i].1 : Int)) := by
  obtain ⟨g, c, rfl, hb, hl⟩ := h.form h0
  refine ⟨g, c, rfl, hb, hl, fun i hi => ?_⟩
  rw [h.cellAt i (by omega)]
  simp [av, hi]
theorem StrAt.rest {K : Nat → Prop} {w : World} {g : Nat} {x : List UInt8} {r : List (List UInt8)} (h : StrAt K w (some ⟨g, 0, none⟩) (x :: r)) : StrAt K w (some ⟨g, 1, none⟩) r := fun _ => by
  obtain ⟨b, o, e, hk, hl, hc⟩ := h (by simp)
  injection e with e
  injection e with e1 e2 e3
  subst e1; subst e2
  refine ⟨_, 1, rfl, hk, hl, fun i hi => ?_⟩
  have := hc (i + 1) (by simp; omega)
  simp only [List.getElem_cons_succ] at this
  rw [← this]; congr 2; omega
/-- a word begins within its line -/
theorem wds_pos : ∀ (n : Nat) (l : List UInt8) (p : Nat), l.length ≤ n → ∀ z ∈ OM.wds p l, p ≤ z.1 ∧ z.1 < p + l.length ∧ z.2.length ≤ l.length := by
  intro n
  induction n with
  | zero => intro l p h z hz; obtain rfl : l = [] := List.length_eq_zero_iff.1 (by omega); rw [OM.wds_nil] at hz; cases hz
  | succ n ih =>
    intro l p h z hz
    cases l with
    | nil => rw [OM.wds_nil] at hz; cases hz
    | cons c r =>
      simp only [List.length_cons] at h
      by_cases hc : c = 32
      · subst hc; rw [OM.wds_blank] at hz; have := ih r (p + 1) (by omega) z hz; simp only [List.length_cons]; omega
      · rw [OM.wds_word _ _ _ hc] at hz
        have hs : (r.takeWhile OM.nb).length + (r.dropWhile OM.nb).length = r.length := by rw [← List.length_append, List.takeWhile_append_dropWhile]
        rcases List.mem_cons.1 hz with rfl | hz
        · simp only [List.length_cons]; omega
        · have := ih (r.dropWhile OM.nb) (p + 1 + (r.takeWhile OM.nb).length) (by omega) z hz
          simp only [List.length_cons]; omega
end Go.Proofs.YtjfpepinmbbnbaaDoor
