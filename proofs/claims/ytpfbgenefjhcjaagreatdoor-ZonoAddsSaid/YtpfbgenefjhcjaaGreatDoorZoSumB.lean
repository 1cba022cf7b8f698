/- What the document's Laid has under way: a row of numbers that is written in place; a column that is written in place. -/
import Derived.Test.YtpfbgenefjhcjaaGreatDoorZoNear
import Derived.Test.YtpfbgenefjhcjaaGreatDoorZoU
namespace Go.Proofs.YtpfbgenefjhcjaaGreatDoor
set_option linter.unusedVariables false
set_option linter.unusedSimpArgs false
open Go Go.RowKit
set_option maxRecDepth 100000
/-- A row of numbers of the call's own, of these reals. -/
def SumB (w : World) (g n : Nat) (f : Nat → Int) : Prop := ∃ cs : Array Value, w.heap[g]? = some (.cells cs 70 (0, 0)) ∧ n * 3 ≤ cs.size ∧
 ∀ j, j < n → ∃ x : NV, cs[j * 3]? = some (.bool x.neg) ∧ cs[j * 3 + 1]? = some (.slice x.A x.n x.cap) ∧ cs[j * 3 + 2]? = some (.int .i64 x.E) ∧ NumR (-2212) 5000 w x (f j)
section
variable {w w1 : World} {g n : Nat} {f f' : Nat → Int}
theorem SumB.typed (h : SumB w g n f) : Typed w g 70 := by
 obtain ⟨cs, h1, _⟩ := h
 exact ⟨cs, h1⟩
theorem SumB.lt (h : SumB w g n f) : g < w.heap.size := h.typed.lt
theorem SumB.congr (h : SumB w g n f) (hf : ∀ j, j < n → f j = f' j) : SumB w g n f' := by
 obtain ⟨cs, h1, h2, h3⟩ := h
 exact ⟨cs, h1, h2, fun j hj => by rw [← hf j hj]; exact h3 j hj⟩
theorem SumB.below (h : SumB w g n f) (hb : Below w.heap.size w w1) : SumB w1 g n f := by
 obtain ⟨cs, h1, h2, h3⟩ := h
 exact ⟨cs, (hb.block g (Array.getElem?_eq_some_iff.1 h1).1).trans h1, h2, fun j hj => by
  obtain ⟨x, x0, x1, x2, x3⟩ := h3 j hj
  exact ⟨x, x0, x1, x2, x3.below hb⟩⟩
theorem SumB.far {row : Option Nat} {t : TypeId} (h : SumB w g n f) (hg : w.grownBy w1 row) (hr : ∀ k, row = some k → Typed w k t) (h1 : t ≠ 136) (h2 : t ≠ 70) : SumB w1 g n f := by
 have ht := h.typed
 obtain ⟨cs, k1, k2, k3⟩ := h
 exact ⟨cs, (hg.block g ht.lt fun e => (hr g e.symm).ne ht h2 rfl).trans k1, k2, fun j hj => by
  obtain ⟨x, x0, x1, x2, x3⟩ := k3 j hj
  exact ⟨x, x0, x1, x2, x3.far hg hr h1⟩⟩
theorem SumB.at (h : SumB w g n f) {k : Nat} (hk : k < n) : ∃ x : NV, w.cell? ⟨g, k * 3, none⟩ = some (.bool x.neg) ∧ w.cell? ⟨g, k * 3 + 1, none⟩ = some (.slice x.A x.n x.cap) ∧ w.cell? ⟨g, k * 3 + 2, none⟩ = some (.int .i64 x.E) ∧ NumR (-2212) 5000 w x (f k) := by
 obtain ⟨cs, h1, h2, h3⟩ := h
 obtain ⟨x, x0, x1, x2, x3⟩ := h3 k hk
 exact ⟨x, (cell_of_row _ _ _ _ _ _ h1).trans x0, (cell_of_row _ _ _ _ _ _ h1).trans x1, (cell_of_row _ _ _ _ _ _ h1).trans x2, x3⟩
theorem SumB.frozen (h : SumB w g n f) (j : Nat) : w.frozen? ⟨g, j, none⟩ = false := by
 obtain ⟨cs, h1, _⟩ := h
 exact frozen_of_row w g _ _ _ h1
theorem SumB.put (h : SumB w g n f) {k : Nat} (hk : k < n) {x : NV} {z : Int} (hx : NumR (-2212) 5000 w x z) :
  SumB (((w.setCell ⟨g, k * 3, none⟩ (.bool x.neg)).setCell ⟨g, k * 3 + 1, none⟩ (.slice x.A x.n x.cap)).setCell ⟨g, k * 3 + 2, none⟩ (.int .i64 x.E)) g n (fun j => if j = k then z else f j) ∧
  w.grownBy (((w.setCell ⟨g, k * 3, none⟩ (.bool x.neg)).setCell ⟨g, k * 3 + 1, none⟩ (.slice x.A x.n x.cap)).setCell ⟨g, k * 3 + 2, none⟩ (.int .i64 x.E)) (some g) := by
 have ht := h.typed
 obtain ⟨cs, h1, h2, h3⟩ := h
 have e1 : (w.setCell ⟨g, k * 3, none⟩ (.bool x.neg)).heap[g]? = _ := heap_setCell_same w g _ _ _ _ h1
 have e2 : ((w.setCell ⟨g, k * 3, none⟩ (.bool x.neg)).setCell ⟨g, k * 3 + 1, none⟩ (.slice x.A x.n x.cap)).heap[g]? = _ := heap_setCell_same _ g _ _ _ _ e1
 have e3 : (((w.setCell ⟨g, k * 3, none⟩ (.bool x.neg)).setCell ⟨g, k * 3 + 1, none⟩ (.slice x.A x.n x.cap)).setCell ⟨g, k * 3 + 2, none⟩ (.int .i64 x.E)).heap[g]? = _ := heap_setCell_same _ g _ _ _ _ e2
 have hg : w.grownBy (((w.setCell ⟨g, k * 3, none⟩ (.bool x.neg)).setCell ⟨g, k * 3 + 1, none⟩ (.slice x.A x.n x.cap)).setCell ⟨g, k * 3 + 2, none⟩ (.int .i64 x.E)) (some g) := grown_set (grown_set (grown_set (grown_refl w (some g)) _ _) _ _) _ _
 refine ⟨⟨_, e3, by simp; omega, fun j hj => ?_⟩, hg⟩
 have hr : ∀ b, some g = some b → Typed w b 70 := fun b e => by cases e; exact ht
 by_cases hjk : j = k
 ·subst hjk
  simp only [Array.getElem?_setIfInBounds, Array.size_setIfInBounds]
  refine ⟨x, ?_, ?_, ?_, ?_⟩
  ·rw [if_neg (by omega), if_neg (by omega), if_pos trivial, if_pos (by omega)]
  ·rw [if_neg (by omega), if_pos trivial, if_pos (by omega)]
  ·rw [if_pos trivial, if_pos (by omega)]
  ·rw [if_pos trivial]; exact hx.far hg hr (by decide)
 ·obtain ⟨y, y0, y1, y2, y3⟩ := h3 j hj
  simp only [Array.getElem?_setIfInBounds, Array.size_setIfInBounds]
  refine ⟨y, ?_, ?_, ?_, ?_⟩
  ·rw [if_neg (by omega), if_neg (by omega), if_neg (by omega)]; exact y0
  ·rw [if_neg (by omega), if_neg (by omega), if_neg (by omega)]; exact y1
  ·rw [if_neg (by omega), if_neg (by omega), if_neg (by omega)]; exact y2
  ·rw [if_neg hjk]; exact y3.far hg hr (by decide)
end
/-- Numbers that came in, as a list of what they are made of. -/
theorem nums_nvs {lo hi : Int} {w : World} {A : Option Addr} {cap : Nat} {zs : List Int} (h : NLt lo hi w A cap zs) :
  ∃ ns : List NV, ns.length = zs.length ∧ (∀ (j : Nat) (z : Int), zs[j]? = some z → ∃ x, ns[j]? = some x ∧ NumR lo hi w x z) ∧ ∀ ad, A = some ad → ∀ j u, (ns.flatMap NV.cells)[j]? = some u → w.cell? (ad.add j) = some u := by
 have H : ∀ j : Fin zs.length, ∃ x : NV, NumR lo hi w x zs[j] ∧ ∃ b o : Nat, A = some ⟨b, o, none⟩ ∧ w.cell? ⟨b, o + j.1 * 3, none⟩ = some (.bool x.neg) ∧ w.cell? ⟨b, o + j.1 * 3 + 1, none⟩ = some (.slice x.A x.n x.cap) ∧ w.cell? ⟨b, o + j.1 * 3 + 2, none⟩ = some (.int .i64 x.E) := fun j => by
  obtain ⟨b, o, x, e, h1, h2, h3, h4, h5⟩ := h.row j.1 zs[j] (List.getElem?_eq_getElem j.2)
  exact ⟨x, h5, b, o, e, h2, h3, h4⟩
 have hl : (List.ofFn fun j : Fin zs.length => Classical.choose (H j)).length = zs.length := List.length_ofFn
 have hget : ∀ (j : Nat) (hj : j < zs.length), (List.ofFn fun j : Fin zs.length => Classical.choose (H j))[j]? = some (Classical.choose (H ⟨j, hj⟩)) := fun j hj => by
  rw [List.getElem?_ofFn, dif_pos hj]
 refine ⟨List.ofFn fun j : Fin zs.length => Classical.choose (H j), hl, fun j z hz => ?_, fun ad ha j u hu => ?_⟩
 ·obtain ⟨hj, hz'⟩ := List.getElem?_eq_some_iff.1 hz
  refine ⟨_, hget j hj, ?_⟩
  have := (Classical.choose_spec (H ⟨j, hj⟩)).1
  subst hz'
  exact this
 ·have hj := (List.getElem?_eq_some_iff.1 hu).1
  rw [flat_length NV.cells 3 (fun _ => rfl), hl] at hj
  have hj' : j / 3 < zs.length := by omega
  have e : j = j / 3 * 3 + j % 3 := by omega
  obtain ⟨_, b, o, hA, c0, c1, c2⟩ := Classical.choose_spec (H ⟨j / 3, hj'⟩)
  rw [e, flat_get NV.cells 3 (fun _ => rfl) _ (j / 3) _ (hget _ hj') (j % 3) (Nat.mod_lt _ (by decide))] at hu
  rw [ha] at hA
  cases hA
  rw [addr_add, e]
  generalize Classical.choose (H ⟨j / 3, hj'⟩) = x at *
  have h3 : j % 3 < 3 := Nat.mod_lt _ (by decide)
  generalize j % 3 = i at *
  match i, h3 with
  | 0, _ => cases hu; exact c0
  | 1, _ => cases hu; rw [← Nat.add_assoc]; exact c1
  | 2, _ => cases hu; rw [← Nat.add_assoc]; exact c2
/-- Such a row, made by append, to be written in place. -/
theorem SumB.of_own {w : World} {base n : Nat} {v : Value} {ns : List NV} {f : Nat → Int} (h : OwnG NV.cells 70 3 w base v ns) (hl : ns.length = n) (h1 : 1 ≤ n) (hn : ∀ j, j < n → ∃ x, ns[j]? = some x ∧ NumR (-2212) 5000 w x (f j)) :
  ∃ g cap, v = .slice (some ⟨g, 0, none⟩) n cap ∧ base ≤ g ∧ n ≤ cap ∧ SumB w g n f := by
 obtain ⟨k1, k2⟩ := h
 rcases k2 with ⟨_, h0⟩ | ⟨g, cap, cur, hv, hb, hg, hc, hm, hs, ht⟩
 ·omega
 ·rw [hl] at hv hc ht
  refine ⟨g, cap, hv, hb, hc, cur, hg, by omega, fun j hj => ?_⟩
  obtain ⟨x, hx, hr⟩ := hn j hj
  have key : ∀ i, i < 3 → cur[j * 3 + i]? = (NV.cells x)[i]? := fun i hi => by
   rw [← flat_get NV.cells 3 (fun _ => rfl) ns j x hx i hi, ← ht, List.getElem?_take_of_lt (by omega), Array.getElem?_toList]
  exact ⟨x, key 0 (by decide), key 1 (by decide), key 2 (by decide), hr⟩
theorem below_row3 {α : Type} {c : α → List Value} {e : TypeId} {m base B : Nat} {w w1 : World} {v : Value} {xs : List α} (hg : w.grownBy w1 v.ownBlock) (h : OwnG c e m w base v xs) (hb : base ≤ w.heap.size) (hB : B ≤ base) : Below B w w1 :=
 ⟨hg.os, hg.tape, hg.output, hg.size, fun k hk => hg.block k (by omega) fun e => by have := (h.lt k e.symm).1; omega⟩
/-- A column under way. -/
def ColB (w : World) (g n : Nat) (us : List Nat) : Prop := ∃ cs : Array Value, w.heap[g]? = some (.cells cs 46 (0, 0)) ∧ cs.size = n ∧ ∀ (j : Nat) (u : Nat), us[j]? = some u → cs[j]? = some (.int .u64 (u : Nat))
section
variable {w w1 : World} {g n k : Nat} {us : List Nat}
theorem ColB.typed (h : ColB w g n us) : Typed w g 46 := by
 obtain ⟨cs, h1, _⟩ := h
 exact ⟨cs, h1⟩
theorem ColB.heap (h : ColB w g n us) (hb : w1.heap[g]? = w.heap[g]?) : ColB w1 g n us := by
 obtain ⟨cs, h1, h2, h3⟩ := h
 exact ⟨cs, hb.trans h1, h2, h3⟩
theorem ColB.below (h : ColB w g n us) (hb : Below w.heap.size w w1) : ColB w1 g n us := h.heap (hb.block g h.typed.lt)
theorem ColB.at (h : ColB w g n us) (hk : k < n) : (∃ v, w.cell? ⟨g, k, none⟩ = some v) ∧ w.frozen? ⟨g, k, none⟩ = false := by
 obtain ⟨cs, h1, h2, h3⟩ := h
 refine ⟨⟨cs[k]'(by omega), ?_⟩, frozen_of_row w g _ _ _ h1⟩
 rw [cell_of_row _ _ _ _ _ _ h1]
 exact Array.getElem?_eq_getElem _
theorem ColB.set (h : ColB w g n us) (hk : k < n) (hl : us.length = k) (u : Nat) :
  ColB (w.setCell ⟨g, k, none⟩ (.int .u64 (u : Nat))) g n (us ++ [u]) ∧ w.grownBy (w.setCell ⟨g, k, none⟩ (.int .u64 (u : Nat))) (some g) := by
 obtain ⟨cs, h1, h2, h3⟩ := h
 have e1 : (w.setCell ⟨g, k, none⟩ (.int .u64 (u : Nat))).heap[g]? = _ := heap_setCell_same w g _ _ _ _ h1
 refine ⟨⟨_, e1, by simp [h2], fun j t ht => ?_⟩, grown_set (grown_refl w (some g)) _ _⟩
 rcases Nat.lt_or_ge j k with hj | hj
 ·rw [List.getElem?_append_left (by omega)] at ht
  rw [Array.getElem?_setIfInBounds, if_neg (by omega)]
  exact h3 j t ht
 ·have hj' : j = k := by
   have := (List.getElem?_eq_some_iff.1 ht).1
   rw [List.length_append, List.length_singleton] at this
   omega
  subst hj'
  rw [List.getElem?_append_right (by omega), hl, Nat.sub_self] at ht
  cases ht
  rw [Array.getElem?_setIfInBounds, if_pos rfl, if_pos (by omega)]
theorem ColB.tat (h : ColB w g n us) (hl : us.length = n) (hm : n ≤ maxLen) : TAt cU 46 w (some ⟨g, 0, none⟩) n us := by
 have ht := h.typed
 obtain ⟨cs, h1, h2, h3⟩ := h
 refine ⟨⟨fun j u hu => ⟨g, 0, rfl, ht.lt, ?_⟩, (fun e => by cases e), by omega, hm⟩, fun a ha => by cases ha; exact ht⟩
 rw [cell_of_row _ _ _ _ _ _ h1, Nat.zero_add]
 exact h3 j u hu
end
theorem make_col (n : Nat) (hn : n ≤ 1000000) (w : World) : (Instr.makeSlice 27 (.int .i64 (n : Int)) (.int .i64 (n : Int))).run Tryz.prog w = .ok (.slice (some ⟨w.heap.size, 0, none⟩) n n) (w.alloc (.cells (madeCells #[.int .u64 0] n) 46)) := by
 obtain ⟨i0, hi0, hz0, hz1, hz2⟩ := info_parts infoU
 have hr := run_make (P := Tryz.prog) w 27 46 i0 _ Tryz.underlying27 hi0 hz0 .i64 .i64 n n (by omega) (Int.le_refl _) (by rw [hz2]; omega) (by omega)
 simp only [Int.toNat_natCast] at hr
 rw [hz1, Nat.mul_one] at hr
 exact hr
theorem ColB.made (w : World) (n : Nat) : ColB (w.alloc (.cells (madeCells #[.int .u64 0] n) 46)) w.heap.size n [] := ⟨_, World.alloc_heap_new _ _, size_madeCells _ _, fun j s hs => by simp at hs⟩
theorem TAt.heap {α : Type} {c : α → Value} {t : TypeId} {w w1 : World} {A : Option Addr} {cap : Nat} {xs : List α} (h : TAt c t w A cap xs) (hb : ∀ a, A = some a → w1.heap[a.block]? = w.heap[a.block]?) (hs : w.heap.size ≤ w1.heap.size) : TAt c t w1 A cap xs := by
 refine ⟨⟨fun j x hx => ?_, h.at_.nil, h.at_.len, h.at_.most⟩, fun a ha => ?_⟩
 ·obtain ⟨b, o, e, h1, h2⟩ := h.at_.row j x hx
  exact ⟨b, o, e, Nat.lt_of_lt_of_le h1 hs, (World.cell?_of_block (a := ⟨b, o + j, none⟩) (hb ⟨b, o, none⟩ e)).trans h2⟩
 ·obtain ⟨cs, h3⟩ := h.typed a ha
  exact ⟨cs, (hb a ha).trans h3⟩
theorem GAcc.heap {α : Type} {c : α → Value} {t e : TypeId} {base : Nat} {w w1 : World} {v : Value} {vals : List Value} {gs : List (List α)} (h : GAcc c t e base w v vals gs) (hs : w.heap.size ≤ w1.heap.size) (h1 : ∀ k, Typed w k e → w1.heap[k]? = w.heap[k]?) (h2 : ∀ k, Typed w k t → w1.heap[k]? = w.heap[k]?) : GAcc c t e base w1 v vals gs :=
 ⟨h.own.heap fun k hk => h1 k (h.own.typed k hk), h.len, fun j g hg => by
  obtain ⟨A, cap, k1, k2⟩ := h.rows j g hg
  exact ⟨A, cap, k1, k2.heap (fun a ha => h2 _ (k2.typed a ha)) hs⟩⟩
/-- A block of another type than the turned ones' is as it was. -/
theorem Kept.typed {bs : List Nat} {w w1 : World} (hK : Kept bs w w1) {k : Nat} {t : TypeId} (hk : Typed w k t) (hb : ∀ b ∈ bs, ∃ t', Typed w b t' ∧ t' ≠ t) : w1.heap[k]? = w.heap[k]? :=
 hK.block k hk.lt fun hm => by
  obtain ⟨t', h1, h2⟩ := hb k hm
  exact hk.ne h1 (Ne.symm h2) rfl
theorem Kept.grown {b : Nat} {w w1 : World} (h : Kept [b] w w1) : w.grownBy w1 (some b) := ⟨h.os, h.tape, h.output, h.size, fun k hk hn => h.block k hk fun hm => hn (by rw [List.mem_singleton.1 hm])⟩
theorem Kept.mono {bs bs' : List Nat} {w w1 : World} (h : Kept bs w w1) (hs : ∀ b ∈ bs, b ∈ bs') : Kept bs' w w1 := ⟨h.os, h.tape, h.output, h.size, fun k hk hn => h.block k hk fun hm => hn (hs k hm)⟩
theorem UB.set1 {w : World} {b : Nat} {v0 v1 v2 v3 v4 v5 : Value} (h : UB w b v0 v1 v2 v3 v4 v5) (u : Value) : UB (w.setCell ⟨b, 1, none⟩ u) b v0 u v2 v3 v4 v5 ∧ w.grownBy (w.setCell ⟨b, 1, none⟩ u) (some b) := ⟨heap_setCell_same w b 1 _ _ _ h, grown_set (grown_refl w _) _ _⟩
/-! ### The first loop: the centre grows -/
structure L1 (W0 : World) (gb gs n : Nat) (F : Nat → Int) (W : World) (vc : Value) (l : List Nat) : Prop where
 kept : Kept [gb, gs] W0 W
 out : UB W gb (.int .i64 (n : Int)) vc (.slice none 0 0) (.slice none 0 0) (.slice none 0 0) (.bool false)
 c : OwnG (fun x => [cU x]) 46 1 W W0.heap.size vc l
 sum : SumB W gs n F
section
variable {W0 W W1 W2 : World} {gb gs n : Nat} {F F' : Nat → Int} {vc vc' : Value} {l l' : List Nat}
theorem L1.size (h : L1 W0 gb gs n F W vc l) : W0.heap.size ≤ W.heap.size := h.kept.size
theorem L1.b (h : L1 W0 gb gs n F W vc l) (hb : Below W.heap.size W W1) : L1 W0 gb gs n F W1 vc l := ⟨h.kept.trans (Kept.of_below _ hb), h.out.below hb, h.c.below hb, h.sum.below hb⟩
theorem L1.putC (h : L1 W0 gb gs n F W vc l) (ho : OwnG (fun x => [cU x]) 46 1 W2 W0.heap.size vc' l') (hg : W.grownBy W2 vc.ownBlock) :
  UB W2 gb (.int .i64 (n : Int)) vc (.slice none 0 0) (.slice none 0 0) (.slice none 0 0) (.bool false) ∧ L1 W0 gb gs n F (W2.setCell ⟨gb, 1, none⟩ vc') vc' l' := by
 have ht := h.c.typed
 have k2 : UB W2 gb _ _ _ _ _ _ := block_far h.out hg ht (by decide)
 obtain ⟨q1, q2⟩ := k2.set1 vc'
 have hz : ∀ k, some gb = some k → Typed W2 k 30 := fun k e => by cases e; exact k2.typed
 exact ⟨k2, ⟨(h.kept.add (below_ownG h.c hg h.size)).row q2 (Or.inr List.mem_cons_self), q1, ho.farR q2 hz (by decide), (h.sum.far hg ht (by decide) (by decide)).far q2 hz (by decide) (by decide)⟩⟩
theorem L1.putS (h : L1 W0 gb gs n F W vc l) {k : Nat} (hk : k < n) {x : NV} {z : Int} (hx : NumR (-2212) 5000 W x z) :
  L1 W0 gb gs n (fun j => if j = k then z else F j) (((W.setCell ⟨gs, k * 3, none⟩ (.bool x.neg)).setCell ⟨gs, k * 3 + 1, none⟩ (.slice x.A x.n x.cap)).setCell ⟨gs, k * 3 + 2, none⟩ (.int .i64 x.E)) vc l := by
 have ht := h.sum.typed
 obtain ⟨q1, q2⟩ := h.sum.put hk hx
 have hz : ∀ k, some gs = some k → Typed W k 70 := fun k e => by cases e; exact ht
 exact ⟨h.kept.row q2 (Or.inr (List.mem_cons_of_mem _ List.mem_cons_self)), block_far h.out q2 hz (by decide), h.c.farR q2 hz (by decide), q1⟩
theorem L1.congr (h : L1 W0 gb gs n F W vc l) (hf : ∀ j, j < n → F j = F' j) : L1 W0 gb gs n F' W vc l := ⟨h.kept, h.out, h.c, h.sum.congr hf⟩
end
/-! ### The second loop: Ids and columns grow -/
structure L2 (W0 : World) (gb gs n : Nat) (vc : Value) (F : Nat → Int) (W : World) (vi vg : Value) (vals : List Value) (ids : List Int) (g : List (List Nat)) : Prop where
 kept : Kept [gb, gs] W0 W
 out : UB W gb (.int .i64 (n : Int)) vc vi vg (.slice none 0 0) (.bool false)
 ids : OwnG (fun x => [cI x]) 3 1 W W0.heap.size vi ids
 g : GAcc cU 46 27 W0.heap.size W vg vals g
 sum : SumB W gs n F
section
variable {W0 W W1 W2 : World} {gb gs n : Nat} {vc vi vg vi' vg' : Value} {F F' : Nat → Int} {vals : List Value} {ids ids' : List Int} {g : List (List Nat)} {us : List Nat}
theorem L2.size (h : L2 W0 gb gs n vc F W vi vg vals ids g) : W0.heap.size ≤ W.heap.size := h.kept.size
theorem L2.b (h : L2 W0 gb gs n vc F W vi vg vals ids g) (hb : Below W.heap.size W W1) : L2 W0 gb gs n vc F W1 vi vg vals ids g := ⟨h.kept.trans (Kept.of_below _ hb), h.out.below hb, h.ids.below hb, h.g.below hb, h.sum.below hb⟩
theorem L2.turn (h : L2 W0 gb gs n vc F W vi vg vals ids g) (hK : Kept [gs] W W1) (hs : SumB W1 gs n F') : L2 W0 gb gs n vc F' W1 vi vg vals ids g := by
 have key : ∀ (t : TypeId), t ≠ 70 → ∀ k, Typed W k t → W1.heap[k]? = W.heap[k]? := fun t ht k hk => hK.typed hk fun b hb => by
  rw [List.mem_singleton.1 hb]
  exact ⟨_, h.sum.typed, Ne.symm ht⟩
 exact ⟨h.kept.trans (hK.mono fun b hb => List.mem_cons_of_mem _ hb), (key _ (by decide) gb h.out.typed).trans h.out, h.ids.heap fun k hk => key _ (by decide) k (h.ids.typed k hk), h.g.heap hK.size (key _ (by decide)) (key _ (by decide)), hs⟩
theorem L2.putIds (h : L2 W0 gb gs n vc F W vi vg vals ids g) (ho : OwnG (fun x => [cI x]) 3 1 W2 W0.heap.size vi' ids') (hg : W.grownBy W2 vi.ownBlock) :
  UB W2 gb (.int .i64 (n : Int)) vc vi vg (.slice none 0 0) (.bool false) ∧ L2 W0 gb gs n vc F (W2.setCell ⟨gb, 2, none⟩ vi') vi' vg vals ids' g := by
 have ht := h.ids.typed
 have k2 : UB W2 gb _ _ _ _ _ _ := block_far h.out hg ht (by decide)
 obtain ⟨q1, q2⟩ := k2.set2 vi'
 have hz : ∀ k, some gb = some k → Typed W2 k 30 := fun k e => by cases e; exact k2.typed
 exact ⟨k2, ⟨(h.kept.add (below_ownG h.ids hg h.size)).row q2 (Or.inr List.mem_cons_self), q1, ho.farR q2 hz (by decide), (h.g.farR hg ht (by decide) (by decide)).farR q2 hz (by decide) (by decide), (h.sum.far hg ht (by decide) (by decide)).far q2 hz (by decide) (by decide)⟩⟩
theorem L2.putCol {A : Option Addr} {m cap : Nat} (h : L2 W0 gb gs n vc F W vi vg vals ids g) (hT : TAt cU 46 W A cap us) (hl : us.length = m) (ho : OwnG (fun x => [cV x]) 27 1 W2 W0.heap.size vg' (vals ++ [.slice A m cap])) (hg : W.grownBy W2 vg.ownBlock) :
  UB W2 gb (.int .i64 (n : Int)) vc vi vg (.slice none 0 0) (.bool false) ∧ L2 W0 gb gs n vc F (W2.setCell ⟨gb, 3, none⟩ vg') vi vg' (vals ++ [.slice A m cap]) ids (g ++ [us]) := by
 subst hl
 have ht := h.g.own.typed
 have k2 : UB W2 gb _ _ _ _ _ _ := block_far h.out hg ht (by decide)
 obtain ⟨q1, q2⟩ := k2.set3 vg'
 have hz : ∀ k, some gb = some k → Typed W2 k 30 := fun k e => by cases e; exact k2.typed
 exact ⟨k2, ⟨(h.kept.add (below_ownG h.g.own hg h.size)).row q2 (Or.inr List.mem_cons_self), q1, (h.ids.farR hg ht (by decide)).farR q2 hz (by decide), (h.g.add hT ho hg (by decide)).farR q2 hz (by decide) (by decide), (h.sum.far hg ht (by decide) (by decide)).far q2 hz (by decide) (by decide)⟩⟩
theorem L2.congr (h : L2 W0 gb gs n vc F W vi vg vals ids g) (hf : ∀ j, j < n → F j = F' j) : L2 W0 gb gs n vc F' W vi vg vals ids g := ⟨h.kept, h.out, h.ids, h.g, h.sum.congr hf⟩
end
/-! ### A column of the second loop -/
structure L2i (W0 : World) (gs gc n : Nat) (F : Nat → Int) (W : World) (l : List Nat) : Prop where
 kept : Kept [gs, gc] W0 W
 col : ColB W gc n l
 sum : SumB W gs n F
section
variable {W0 W W1 : World} {gs gc n k : Nat} {F F' : Nat → Int} {l : List Nat}
theorem L2i.b (h : L2i W0 gs gc n F W l) (hb : Below W.heap.size W W1) : L2i W0 gs gc n F W1 l := ⟨h.kept.trans (Kept.of_below _ hb), h.col.below hb, h.sum.below hb⟩
theorem L2i.putU (h : L2i W0 gs gc n F W l) (hk : k < n) (hl : l.length = k) (u : Nat) : L2i W0 gs gc n F (W.setCell ⟨gc, k, none⟩ (.int .u64 (u : Nat))) (l ++ [u]) := by
 obtain ⟨q1, q2⟩ := h.col.set hk hl u
 exact ⟨h.kept.row q2 (Or.inr (List.mem_cons_of_mem _ List.mem_cons_self)), q1, h.sum.far q2 (fun k e => by cases e; exact h.col.typed) (by decide) (by decide)⟩
theorem L2i.putS (h : L2i W0 gs gc n F W l) (hk : k < n) {x : NV} {z : Int} (hx : NumR (-2212) 5000 W x z) :
  L2i W0 gs gc n (fun j => if j = k then z else F j) (((W.setCell ⟨gs, k * 3, none⟩ (.bool x.neg)).setCell ⟨gs, k * 3 + 1, none⟩ (.slice x.A x.n x.cap)).setCell ⟨gs, k * 3 + 2, none⟩ (.int .i64 x.E)) l := by
 obtain ⟨q1, q2⟩ := h.sum.put hk hx
 exact ⟨h.kept.row q2 (Or.inr List.mem_cons_self), h.col.heap (q2.block gc h.col.typed.lt fun e => by
  cases e
  exact h.col.typed.ne h.sum.typed (by decide) rfl), q1⟩
theorem L2i.congr (h : L2i W0 gs gc n F W l) (hf : ∀ j, j < n → F j = F' j) : L2i W0 gs gc n F' W l := ⟨h.kept, h.col, h.sum.congr hf⟩
end
theorem Kept.drop {gs gc : Nat} {w w1 : World} (h : Kept [gs, gc] w w1) (hg : w.heap.size ≤ gc) : Kept [gs] w w1 := ⟨h.os, h.tape, h.output, h.size, fun k hk hn => h.block k hk fun hm => by
 rcases List.mem_cons.1 hm with e | e
 ·exact hn (by rw [e]; exact List.mem_cons_self)
 ·have := List.mem_singleton.1 e; omega⟩
/-! ### The third loop: R grows -/
structure L3 (W0 : World) (gb n : Nat) (vc vi vg : Value) (W : World) (vr : Value) (r : List Nat) : Prop where
 kept : Kept [gb] W0 W
 out : UB W gb (.int .i64 (n : Int)) vc vi vg vr (.bool false)
 r : OwnG (fun x => [cU x]) 46 1 W W0.heap.size vr r
section
variable {W0 W W1 W2 : World} {gb n : Nat} {vc vi vg vr vr' : Value} {r r' : List Nat}
theorem L3.size (h : L3 W0 gb n vc vi vg W vr r) : W0.heap.size ≤ W.heap.size := h.kept.size
theorem L3.b (h : L3 W0 gb n vc vi vg W vr r) (hb : Below W.heap.size W W1) : L3 W0 gb n vc vi vg W1 vr r := ⟨h.kept.trans (Kept.of_below _ hb), h.out.below hb, h.r.below hb⟩
theorem L3.put (h : L3 W0 gb n vc vi vg W vr r) (ho : OwnG (fun x => [cU x]) 46 1 W2 W0.heap.size vr' r') (hg : W.grownBy W2 vr.ownBlock) :
  UB W2 gb (.int .i64 (n : Int)) vc vi vg vr (.bool false) ∧ L3 W0 gb n vc vi vg (W2.setCell ⟨gb, 4, none⟩ vr') vr' r' := by
 have ht := h.r.typed
 have k2 : UB W2 gb _ _ _ _ _ _ := block_far h.out hg ht (by decide)
 obtain ⟨q1, q2⟩ := k2.set4 vr'
 have hz : ∀ k, some gb = some k → Typed W2 k 30 := fun k e => by cases e; exact k2.typed
 exact ⟨k2, ⟨(h.kept.add (below_ownG h.r hg h.size)).row q2 (Or.inr List.mem_cons_self), q1, ho.farR q2 hz (by decide)⟩⟩
end
theorem uis_of {w : World} {base base' : Nat} {n : Int} {Ac : Option Addr} {nc cc : Nat} {vi vg vr : Value} {cs rs : List Nat} {vals : List Value} {ids : List Int} {g : List (List Nat)} (hc : TAt cU 46 w Ac cc cs) (hl : cs.length = nc) (hi : OwnG (fun x => [cI x]) 3 1 w base vi ids) (hg : GAcc cU 46 27 base w vg vals g) (hr : OwnG (fun x => [cU x]) 46 1 w base' vr rs) :
  UIs w (.agg #[.int .i64 n, .slice Ac nc cc, vi, vg, vr, .bool false]) ⟨n, cs, ids, g, rs, false⟩ := by
 have c1 := hc.at_
 obtain ⟨Ai, ci, e3, i1⟩ := hi.lat
 obtain ⟨Ag, cg, e4, l1, l2, l3, g1⟩ := hg.row
 obtain ⟨Ar, cr, e5, r1⟩ := hr.lat
 subst e3 e4 e5 hl
 exact ⟨Ac, Ai, Ag, Ar, cc, ci, cg, cr, rfl, ⟨c1.row, i1.row, g1, r1.row, ⟨c1.len, c1.most, c1.nil⟩, ⟨i1.len, i1.most, i1.nil⟩, ⟨l1, l2, l3⟩, ⟨r1.len, r1.most, r1.nil⟩⟩⟩
/-- A zonotope of the document's, each list in a block of its own: another block of the document's zonotopes may be written. -/
def UT (w : World) (v : Value) (y : ZD) : Prop := ∃ (base base' : Nat) (n : Int) (Ac : Option Addr) (cc : Nat) (vi vg vr : Value) (cs rs : List Nat) (vals : List Value) (ids : List Int) (g : List (List Nat)),
 v = .agg #[.int .i64 n, .slice Ac cs.length cc, vi, vg, vr, .bool false] ∧ y = ⟨n, cs, ids, g, rs, false⟩ ∧ TAt cU 46 w Ac cc cs ∧ OwnG (fun x => [cI x]) 3 1 w base vi ids ∧ GAcc cU 46 27 base w vg vals g ∧ OwnG (fun x => [cU x]) 46 1 w base' vr rs
theorem UT.is {w : World} {v : Value} {y : ZD} (h : UT w v y) : UIs w v y := by
 obtain ⟨_, _, _, _, _, _, _, _, _, _, _, _, _, rfl, rfl, h1, h2, h3, h4⟩ := h
 exact uis_of h1 rfl h2 h3 h4
theorem UT.below {w w1 : World} {v : Value} {y : ZD} (h : UT w v y) (hb : Below w.heap.size w w1) : UT w1 v y := by
 obtain ⟨b0, b1, n, Ac, cc, vi, vg, vr, cs, rs, vals, ids, g, e1, e2, h1, h2, h3, h4⟩ := h
 exact ⟨b0, b1, n, Ac, cc, vi, vg, vr, cs, rs, vals, ids, g, e1, e2, h1.below hb, h2.below hb, h3.below hb, h4.below hb⟩
theorem UT.far {w w1 : World} {v : Value} {y : ZD} {b : Nat} (h : UT w v y) (hg : w.grownBy w1 (some b)) (hb : Typed w b 30) : UT w1 v y := by
 have hz : ∀ k, some b = some k → Typed w k 30 := fun k e => by cases e; exact hb
 obtain ⟨b0, b1, n, Ac, cc, vi, vg, vr, cs, rs, vals, ids, g, e1, e2, h1, h2, h3, h4⟩ := h
 exact ⟨b0, b1, n, Ac, cc, vi, vg, vr, cs, rs, vals, ids, g, e1, e2, h1.far hg hz (by decide), h2.farR hg hz (by decide), h3.farR hg hz (by decide) (by decide), h4.farR hg hz (by decide)⟩
theorem UT.slices {w : World} {v : Value} {y : ZD} (h : UT w v y) : ∃ (A B C D : Option Addr) (kA kB kC kD : Nat), v = .agg #[.int .i64 y.n, .slice A y.c.length kA, .slice B y.ids.length kB, .slice C y.g.length kC, .slice D y.r.length kD, .bool false] := by
 obtain ⟨b0, b1, n, Ac, cc, vi, vg, vr, cs, rs, vals, ids, g, rfl, rfl, h1, h2, h3, h4⟩ := h
 obtain ⟨Ai, ci, rfl, _⟩ := h2.lat
 obtain ⟨Ag, cg, rfl, _⟩ := h3.row
 obtain ⟨Ar, cr, rfl, _⟩ := h4.lat
 exact ⟨_, _, _, _, _, _, _, _, rfl⟩
/-! ### What the sums come to -/
def sumL (p q : List Nat) (n : Nat) : List Int := (List.range n).map fun k => fz (p.getD k 0) + fz (q.getD k 0)
theorem sumL_get (p q : List Nat) {n k : Nat} (hk : k < n) : (sumL p q n)[k]? = some (fz (p.getD k 0) + fz (q.getD k 0)) := by
 unfold sumL
 rw [List.getElem?_map, List.getElem?_range hk]
 rfl
theorem sumL_len (p q : List Nat) (n : Nat) : (sumL p q n).length = n := by unfold sumL; rw [List.length_map, List.length_range]
theorem sum2_le {u v : Nat} (hu : fexp u ≠ 2047) (hv : fexp v ≠ 2047) : (fz u + fz v).natAbs ≤ 2 * FB := by
 have h1 := fz_lt u hu
 have h2 := fz_lt v hv
 omega
def f1 (a b : ZD) (k i : Nat) : Int := if i < k then fz (a.r.getD i 0) + fz (b.r.getD i 0) + lossZ (a.c.getD i 0) (b.c.getD i 0) else fz (a.r.getD i 0) + fz (b.r.getD i 0)
theorem f1_step (a b : ZD) (k j : Nat) : (if j = k then f1 a b k k + lossZ (a.c.getD k 0) (b.c.getD k 0) else f1 a b k j) = f1 a b (k + 1) j := by
 unfold f1
 by_cases h : j = k
 ·subst h
  rw [if_pos rfl, if_neg (Nat.lt_irrefl j), if_pos (Nat.lt_succ_self j)]
 ·rw [if_neg h]
  by_cases h2 : j < k
  ·rw [if_pos h2, if_pos (by omega)]
  ·rw [if_neg h2, if_neg (by omega)]
theorem f1_end (a b : ZD) (n : Nat) (U : List Int) {i : Nat} (hi : i < n) : f1 a b n i = offF a b n U 0 i := by
 unfold f1 offF
 rw [if_pos hi]
 exact (Int.add_zero _).symm
theorem f1_W {a b : ZD} (ha : Good a) (hb : Good b) (k : Nat) : (f1 a b k k + lossZ (a.c.getD k 0) (b.c.getD k 0)).natAbs < W32 ^ 400 := by
 have h1 := sum2_le (getD_num a.r ha.numR k) (getD_num b.r hb.numR k)
 have h3 := loss_bound (getD_num a.c ha.numC k) (getD_num b.c hb.numC k)
 unfold f1
 rw [if_neg (Nat.lt_irrefl k)]
 refine few_W _ 5 (by decide) (Nat.le_trans ?_ (Nat.mul_le_mul_left _ FB_le_PB))
 omega
def f2 (a b : ZD) (n : Nat) (U : List Int) (j i x : Nat) : Int := if x < i then offF a b n U (j + 1) x else offF a b n U j x
theorem f2_step (a b : ZD) (n : Nat) (U : List Int) (j i x : Nat) : (if x = i then f2 a b n U j i i + lossZ ((colI a n (U.getD j 0)).getD i 0) ((colI b n (U.getD j 0)).getD i 0) else f2 a b n U j i x) = f2 a b n U j (i + 1) x := by
 unfold f2
 by_cases h : x = i
 ·subst h
  rw [if_pos rfl, if_neg (Nat.lt_irrefl x), if_pos (Nat.lt_succ_self x), offF_succ]
 ·rw [if_neg h]
  by_cases h2 : x < i
  ·rw [if_pos h2, if_pos (by omega)]
  ·rw [if_neg h2, if_neg (by omega)]
theorem f2_zero (a b : ZD) (n : Nat) (U : List Int) (j x : Nat) : offF a b n U j x = f2 a b n U j 0 x := by
 unfold f2
 rw [if_neg (Nat.not_lt_zero x)]
theorem f2_end (a b : ZD) (n : Nat) (U : List Int) (j : Nat) {x : Nat} (hx : x < n) : f2 a b n U j n x = offF a b n U (j + 1) x := by
 unfold f2
 rw [if_pos hx]
theorem f2_W {a b : ZD} (ha : Good a) (hb : Good b) (n : Nat) (U : List Int) (j i : Nat) (hj : j ≤ 2147483650) : (f2 a b n U j i i + lossZ ((colI a n (U.getD j 0)).getD i 0) ((colI b n (U.getD j 0)).getD i 0)).natAbs < W32 ^ 400 := by
 have h1 := offF_lim ha hb n U j i hj
 have h3 := loss_bound (getD_num _ (colI_num ha n (U.getD j 0)) i) (getD_num _ (colI_num hb n (U.getD j 0)) i)
 unfold f2
 rw [if_neg (Nat.lt_irrefl i)]
 refine Nat.lt_trans ?_ LIM_W
 omega
/-- A rounded sum that is not 0 has other bits than 0. -/
theorem near_zero (u v : Nat) : (!decide (fz (nearD u v).1 = 0)) = !decide ((nearD u v).1 = 0) := by
 have h := near_num (fz u + fz v)
 show (!decide (fz (roundS 0 (some (fz u + fz v))).1 = 0)) = !decide ((roundS 0 (some (fz u + fz v))).1 = 0)
 generalize (roundS 0 (some (fz u + fz v))).1 = x at *
 by_cases hx : x = 0
 ·subst hx
  rw [fz_zero]
  rfl
 ·have : fz x ≠ 0 := fun e => hx (fz_inj x 0 h ⟨by decide, by decide, by decide⟩ (e.trans fz_zero.symm))
  rw [decide_eq_false hx, decide_eq_false this]
def zeroU : Value := .agg #[.int .i64 0, .slice none 0 0, .slice none 0 0, .slice none 0 0, .slice none 0 0, .bool false]
def TellsLaid (w : World) (o : Option ZD) (e : Ending) (w' : World) : Prop := (o = none ∧ e = .returned (.tuple #[zeroU, .bool false]) ∧ Below w.heap.size w w') ∨ ∃ y v, o = some y ∧ e = .returned (.tuple #[v, .bool true]) ∧ UT w' v y ∧ Below w.heap.size w w'
end Go.Proofs.YtpfbgenefjhcjaaGreatDoor
