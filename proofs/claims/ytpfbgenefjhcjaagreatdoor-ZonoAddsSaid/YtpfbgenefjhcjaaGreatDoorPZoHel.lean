/-
 law10.Laid: a zonotope laid out with room behind each list; its parts.
 ambitref10.Same: of a zonotope and its bits.
 What is laid out with room, read as a zonotope that came in.
 law10.Held.
-/
import Derived.Test.YtpfbgenefjhcjaaGreatDoorPZoLst
import Derived.Test.YtpfbgenefjhcjaaGreatDoorPZoSup
import Derived.Test.YtpfbgenefjhcjaaGreatDoorPZoLow
import Derived.StillTactics
namespace Go.Proofs.YtpfbgenefjhcjaaGreatDoor
set_option linter.unusedVariables false
set_option linter.unusedSimpArgs false
open Go Go.RowKit
set_option maxRecDepth 100000
theorem WideAt.far {w w1 : World} {base : Nat} {v : Value} {us : List Nat} {row : Option Nat} {t0 : TypeId} (h : WideAt w base v us) (hg : w.grownBy w1 row) (hr : ∀ g, row = some g → Typed w g t0) (hne : 43 ≠ t0) : WideAt w1 base v us := by
 obtain ⟨g, cap, h1, h2, h3, h4, h5⟩ := h
 exact ⟨g, cap, h1, h2, h3, h4, h5.farR hg hr hne⟩
theorem WideAt.low {w : World} {b b' : Nat} {v : Value} {us : List Nat} (h : WideAt w b v us) (hb : b' ≤ b) : WideAt w b' v us := by
 obtain ⟨g, cap, h1, h2, h3, h4, h5⟩ := h
 refine ⟨g, cap, h1, by omega, h3, h4, h5.1, ?_⟩
 rcases h5.2 with h6 | ⟨g', cap', cur, e, h6, h7⟩
 ·exact Or.inl h6
 ·exact Or.inr ⟨g', cap', cur, e, by omega, h7⟩
/-- Lists, each cut out of a longer one, under way. -/
structure WAcc (base : Nat) (wr : World) (v : Value) (vals : List Value) (gs : List (List Nat)) : Prop where
 own : OwnG (fun x => [cV x]) 22 1 wr base v vals
 len : vals.length = gs.length
 rows : ∀ (j : Nat) (us : List Nat), gs[j]? = some us → ∃ u, vals[j]? = some u ∧ WideAt wr base u us
section
variable {base : Nat} {wr w2 : World} {v v' : Value} {vals : List Value} {gs : List (List Nat)}
theorem WAcc.nil (w : World) (base : Nat) : WAcc base w (.slice none 0 0) [] [] := ⟨OwnG.nil _ _, rfl, fun j g hg => by simp at hg⟩
theorem WAcc.below (h : WAcc base wr v vals gs) (hb : Below wr.heap.size wr w2) : WAcc base w2 v vals gs :=
 ⟨h.own.below hb, h.len, fun j us hu => by obtain ⟨u, h1, h2⟩ := h.rows j us hu; exact ⟨u, h1, h2.below hb⟩⟩
theorem WAcc.far {row : Option Nat} {t0 : TypeId} (h : WAcc base wr v vals gs) (hg : wr.grownBy w2 row) (hr : ∀ g, row = some g → Typed wr g t0) (h1 : 43 ≠ t0) (h2 : 22 ≠ t0) : WAcc base w2 v vals gs :=
 ⟨h.own.farR hg hr h2, h.len, fun j us hu => by obtain ⟨u, h3, h4⟩ := h.rows j us hu; exact ⟨u, h3, h4.far hg hr h1⟩⟩
theorem WAcc.add {u : Value} {us : List Nat} (h : WAcc base wr v vals gs) (hr : WideAt wr base u us) (ho : OwnG (fun x => [cV x]) 22 1 w2 base v' (vals ++ [u])) (hg : wr.grownBy w2 v.ownBlock) : WAcc base w2 v' (vals ++ [u]) (gs ++ [us]) := by
 refine ⟨ho, by simp [h.len], fun j g' hg' => ?_⟩
 by_cases hj : j < gs.length
 ·rw [List.getElem?_append_left hj] at hg'
  obtain ⟨u', h1, h2⟩ := h.rows j g' hg'
  exact ⟨u', by rw [List.getElem?_append_left (by rw [h.len]; exact hj)]; exact h1, h2.far hg h.own.typed (by decide)⟩
 ·have hl := (List.getElem?_eq_some_iff.1 hg').1
  rw [List.length_append, List.length_singleton] at hl
  obtain rfl : j = gs.length := by omega
  rw [List.getElem?_append_right (Nat.le_refl _), Nat.sub_self] at hg'
  cases hg'
  refine ⟨u, ?_, hr.far hg h.own.typed (by decide)⟩
  rw [List.getElem?_append_right (by rw [h.len]; exact Nat.le_refl _), h.len, Nat.sub_self]
  rfl
end
theorem OwnG.shape {α : Type} {c : α → List Value} {e : TypeId} {m base : Nat} {w : World} {v : Value} {xs : List α} (h : OwnG c e m w base v xs) (hne : xs ≠ []) : ∃ g cap : Nat, v = .slice (some ⟨g, 0, none⟩) xs.length cap ∧ base ≤ g ∧ xs.length ≤ cap := by
 rcases h.row with ⟨_, h0⟩ | ⟨g, cp, he, hb, hg, hn, hm2, hc⟩
 ·exact absurd h0 hne
 ·exact ⟨g, cp, he, hb, hn⟩
theorem ids_shape {w : World} {base : Nat} {e : TypeId} {v : Value} {ids : List Int} (h : OwnG (fun x => [cI x]) e 1 w base v ([] ++ ids ++ [901, 902])) : ∃ g cap : Nat, v = .slice (some ⟨g, 0, none⟩) (ids.length + 2) cap ∧ base ≤ g ∧ (ids.length : Int) ≤ (cap : Int) ∧ (0 : Int) ≤ (ids.length : Int) := by
 obtain ⟨g, cap, h1, h2, h3⟩ := h.shape (by simp)
 have e : ([] ++ ids ++ [901, 902]).length = ids.length + 2 := by simp
 rw [e] at h1 h3
 exact ⟨g, cap, h1, h2, by omega, by omega⟩
theorem three_blocks (w : World) (o0 o1 o2 : Obj) : (((w.alloc o0).alloc o1).alloc o2).heap[w.heap.size]? = some o0 ∧ (((w.alloc o0).alloc o1).alloc o2).heap[w.heap.size + 1]? = some o1 ∧
  (((w.alloc o0).alloc o1).alloc o2).heap[w.heap.size + 1 + 1]? = some o2 ∧ (((w.alloc o0).alloc o1).alloc o2).heap.size = w.heap.size + 1 + 1 + 1 ∧ Below w.heap.size w (((w.alloc o0).alloc o1).alloc o2) := by
 obtain ⟨f0, f1, f2, f3⟩ := two_blocks w o0 o1
 have h2 := World.alloc_heap_new ((w.alloc o0).alloc o1) o2
 rw [f2] at h2
 exact ⟨(Below.heap_alloc _ _ _ (by omega)).trans f0, (Below.heap_alloc _ _ _ (by omega)).trans f1, h2, by rw [World.size_alloc, f2], f3.alloc (by omega) _⟩
/-- A list in a list that is nil has no room. -/
def GNil (w : World) (C : Option Addr) (gs : List (List Nat)) : Prop := ∀ (k : Nat) (g : List Nat), gs[k]? = some g → ∀ (b o : Nat) (B : Option Addr) (n cap : Nat), C = some ⟨b, o, none⟩ → w.cell? ⟨b, o + k, none⟩ = some (.slice B n cap) → B = none → cap = 0
/-- The six cells of a zonotope under way. -/
def ZB (w : World) (b : Nat) (v0 v1 v2 v3 v4 v5 : Value) : Prop := w.heap[b]? = some (.cells #[v0, v1, v2, v3, v4, v5] 26 (0, 0))
theorem ZB.typed {w : World} {b : Nat} {v0 v1 v2 v3 v4 v5 : Value} (h : ZB w b v0 v1 v2 v3 v4 v5) : Typed w b 26 := ⟨_, h⟩
theorem ZB.below {w w1 : World} {b : Nat} {v0 v1 v2 v3 v4 v5 : Value} (h : ZB w b v0 v1 v2 v3 v4 v5) (hb : Below w.heap.size w w1) : ZB w1 b v0 v1 v2 v3 v4 v5 := (hb.block b (Array.getElem?_eq_some_iff.1 h).1).trans h
theorem ZB.set1 {w : World} {b : Nat} {v0 v1 v2 v3 v4 v5 : Value} (h : ZB w b v0 v1 v2 v3 v4 v5) (u : Value) : ZB (w.setCell ⟨b, 1, none⟩ u) b v0 u v2 v3 v4 v5 ∧ w.grownBy (w.setCell ⟨b, 1, none⟩ u) (some b) := ⟨heap_setCell_same w b 1 _ _ _ h, grown_set (grown_refl w _) _ _⟩
theorem ZB.set2 {w : World} {b : Nat} {v0 v1 v2 v3 v4 v5 : Value} (h : ZB w b v0 v1 v2 v3 v4 v5) (u : Value) : ZB (w.setCell ⟨b, 2, none⟩ u) b v0 v1 u v3 v4 v5 ∧ w.grownBy (w.setCell ⟨b, 2, none⟩ u) (some b) := ⟨heap_setCell_same w b 2 _ _ _ h, grown_set (grown_refl w _) _ _⟩
theorem ZB.set3 {w : World} {b : Nat} {v0 v1 v2 v3 v4 v5 : Value} (h : ZB w b v0 v1 v2 v3 v4 v5) (u : Value) : ZB (w.setCell ⟨b, 3, none⟩ u) b v0 v1 v2 u v4 v5 ∧ w.grownBy (w.setCell ⟨b, 3, none⟩ u) (some b) := ⟨heap_setCell_same w b 3 _ _ _ h, grown_set (grown_refl w _) _ _⟩
theorem ZB.set4 {w : World} {b : Nat} {v0 v1 v2 v3 v4 v5 : Value} (h : ZB w b v0 v1 v2 v3 v4 v5) (u : Value) : ZB (w.setCell ⟨b, 4, none⟩ u) b v0 v1 v2 v3 u v5 ∧ w.grownBy (w.setCell ⟨b, 4, none⟩ u) (some b) := ⟨heap_setCell_same w b 4 _ _ _ h, grown_set (grown_refl w _) _ _⟩
theorem news_two {w : World} {g : Nat} {t : TypeId} {x y : Int} (h : w.heap[g]? = some (.cells #[.int .i64 x, .int .i64 y] t (0, 0))) : ∀ j u, (([x, y] : List Int).flatMap fun x => [cI x])[j]? = some u → w.cell? ((⟨g, 0, none⟩ : Addr).add j) = some u := fun j u hu => by
 rw [addr_add, Nat.zero_add, cell_of_row _ _ _ _ _ _ h]
 match j, hu with
 | 0, hu => cases hu; rfl
 | 1, hu => cases hu; rfl
 | (j + 2), hu => simp at hu
/-- A zonotope laid out with room behind each list. -/
def LaidAt (w : World) (base : Nat) (v : Value) (z : ZD) : Prop := ∃ g1 c1 gI kI gG kG g4 c4 gm : Nat, ∃ vals : List Value,
 v = .agg #[.int .i64 z.n, .slice (some ⟨g1, 0, none⟩) z.c.length c1, .slice (some ⟨gI, 0, none⟩) z.ids.length kI, .slice (some ⟨gG, 0, none⟩) z.g.length kG, .slice (some ⟨g4, 0, none⟩) z.r.length c4, .bool z.bad] ∧
 WideAt w base (.slice (some ⟨g1, 0, none⟩) z.c.length c1) z.c ∧ WideAt w base (.slice (some ⟨g4, 0, none⟩) z.r.length c4) z.r ∧
 OwnG (fun x => [cI x]) 3 1 w base (.slice (some ⟨gI, 0, none⟩) (z.ids.length + 2) kI) ([] ++ z.ids ++ [901, 902]) ∧
 OwnG (fun x => [cV x]) 22 1 w base (.slice (some ⟨gG, 0, none⟩) (z.g.length + 1) kG) (vals ++ [.slice (some ⟨gm, 0, none⟩) 1 1]) ∧ vals.length = z.g.length ∧
 (∀ (j : Nat) (us : List Nat), z.g[j]? = some us → ∃ u, vals[j]? = some u ∧ WideAt w base u us) ∧ gm < w.heap.size ∧ w.cell? ⟨gm, 0, none⟩ = some (.float .f64 4651136495631990784)
theorem rows_shape {w : World} {base : Nat} {e : TypeId} {v : Value} {vals : List Value} {x : Value} (h : OwnG (fun x => [cV x]) e 1 w base v (vals ++ [x])) : ∃ g cap : Nat, v = .slice (some ⟨g, 0, none⟩) (vals.length + 1) cap ∧ base ≤ g ∧ (vals.length : Int) ≤ (cap : Int) ∧ (0 : Int) ≤ (vals.length : Int) := by
 obtain ⟨g, cap, h1, h2, h3⟩ := h.shape (by simp)
 rw [List.length_append, List.length_singleton] at h1 h3
 exact ⟨g, cap, h1, h2, by omega, by omega⟩
set_option maxHeartbeats 8000000 in
theorem Laid_any (w : World) (A B C D : Option Addr) (kA kB kC kD : Nat) (z : ZD) (h : ZCells w z A B C D kA kB kC kD) (hgn : GNil w C z.g) (hk : ZOk z) :
  Calls Tryz.prog 17 #[zval z A B C D kA kB kC kD] w fun e w' => ∃ v base, e = .returned v ∧ w.heap.size ≤ base ∧ LaidAt w' base v z ∧ Below w.heap.size w w' := by
 obtain ⟨f0, f1, f2, f3, f4⟩ := three_blocks w (.cells #[.int .i64 z.n, .slice A z.c.length kA, .slice B z.ids.length kB, .slice C z.g.length kC, .slice D z.r.length kD, .bool z.bad] 26) (.cells #[.int .i64 0, .slice none 0 0, .slice none 0 0, .slice none 0 0, .slice none 0 0, .bool false] 26) (.cells #[.int .i64 z.n, .slice A z.c.length kA, .slice B z.ids.length kB, .slice C z.g.length kC, .slice D z.r.length kD, .bool z.bad] 26)
 unfold zval
 go_enter Tryz.func17, Tryz.ntmps17
 go_wp2_with fail
 generalize ((w.alloc (.cells #[.int .i64 z.n, .slice A z.c.length kA, .slice B z.ids.length kB, .slice C z.g.length kC, .slice D z.r.length kD, .bool z.bad] 26)).alloc (.cells #[.int .i64 0, .slice none 0 0, .slice none 0 0, .slice none 0 0, .slice none 0 0, .bool false] 26)).alloc (.cells #[.int .i64 z.n, .slice A z.c.length kA, .slice B z.ids.length kB, .slice C z.g.length kC, .slice D z.r.length kD, .bool z.bad] 26) = W0 at *
 obtain ⟨b1, e1⟩ : ∃ b, w.heap.size + 1 = b := ⟨_, rfl⟩
 rw [e1] at f1 f2 f3 ⊢
 obtain ⟨b2, e2⟩ : ∃ b, b1 + 1 = b := ⟨_, rfl⟩
 rw [e2] at f2 f3 ⊢
 have hwide := fun w1 (hb : Below w.heap.size w w1) => wide_any w1 A z.c.length kA z.c (h.c.below (Nat.le_refl _) hb) rfl hk.lc h.cA.2.2 h.cA.1
 have hwr := fun w1 (hb : Below w.heap.size w w1) => wide_any w1 D z.r.length kD z.r (h.r.below (Nat.le_refl _) hb) rfl hk.lr h.cD.2.2 h.cD.1
 refine (hwide W0 f4).mono ?_
 rintro e w1 ⟨v1, rfl, hv1, hb1⟩
 have z1 : ZB w1 w.heap.size _ _ _ _ _ _ := ZB.below (w := W0) f0 hb1
 have r1 : ZB w1 b1 _ _ _ _ _ _ := ZB.below (w := W0) f1 hb1
 have t1 : ZB w1 b2 _ _ _ _ _ _ := ZB.below (w := W0) f2 hb1
 have bb1 := f4.trans (hb1.mono f4.size)
 rw [f3] at hv1
 have hs1 := hb1.size
 rw [f3] at hs1
 clear f0 f1 f2 f4 hwide hb1 f3
 obtain ⟨tt1, tg1⟩ := t1.set1 v1
 have z2 : ZB _ w.heap.size _ _ _ _ _ _ := (tg1.block _ (by omega) (fun e => by cases e; omega)).trans z1
 have r2 : ZB _ b1 _ _ _ _ _ _ := (tg1.block _ (by omega) (fun e => by cases e; omega)).trans r1
 have hv2 := hv1.far tg1 (fun g e => by cases e; exact t1.typed) (by decide)
 have bb2 := bb1.trans (below_row tg1 (by omega) (by omega))
 have hw2 := hwr _ bb2
 obtain ⟨g1, c1, rfl, hv1'⟩ := hv1
 obtain ⟨_, y1, _, _, _, _⟩ := cells6 t1
 have fr1 := fun j => frozen_of_row w1 _ j _ _ t1
 obtain ⟨x0, x1, x2, x3, x4, x5⟩ := cells6 z2
 have hs2 := tg1.size
 go_wp2_with fail
 refine hw2.mono ?_
 rintro e w3 ⟨v4, rfl, hv4, hb3⟩
 have bb3 := bb2.trans (hb3.mono bb2.size)
 have hs3 := hb3.size
 have z3 := ZB.below z2 hb3
 have r3 := ZB.below r2 hb3
 have t3 := ZB.below tt1 hb3
 have hv3 := hv2.below hb3
 clear hw2 hb3 z1 r1 t1 tt1 tg1 z2 r2 hv2 bb1 bb2 hv1' y1 fr1 x0 x1 x2 x3 x4 x5 hwr
 obtain ⟨tt4, tg4⟩ := t3.set4 v4
 have z4 : ZB _ w.heap.size _ _ _ _ _ _ := (tg4.block _ (by omega) (fun e => by cases e; omega)).trans z3
 have r4 : ZB _ b1 _ _ _ _ _ _ := (tg4.block _ (by omega) (fun e => by cases e; omega)).trans r3
 have hvc := hv3.far tg4 (fun g e => by cases e; exact t3.typed) (by decide)
 have hvr := (hv4.far tg4 (fun g e => by cases e; exact t3.typed) (by decide)).low (b' := b2 + 1) (by omega)
 have bb4 := bb3.trans (below_row tg4 (by omega) (by omega))
 obtain ⟨g4, c4, rfl, hv4'⟩ := hv4
 obtain ⟨_, _, _, _, y4, _⟩ := cells6 t3
 have fr4 := fun j => frozen_of_row w3 _ j _ _ t3
 obtain ⟨x0, x1, x2, x3, x4, x5⟩ := cells6 z4
 have hs4 := tg4.size
 have hI4 := h.ids.below (Nat.le_refl _) bb4
 have hli := hk.li
 unfold MAXF at hli
 have hcB := h.cB
 have hm1 : ([] : List Int).length + z.ids.length ≤ maxLen := by unfold maxLen; simp; omega
 have hm2 : (([] : List Int).length + z.ids.length) * 8 ≤ 140737488355328 := by simp; omega
 have hbase : b2 + 1 ≤ (w3.setCell ⟨b2, 4, none⟩ (.slice (some ⟨g4, 0, none⟩) z.r.length c4)).heap.size := by omega
 go_wp2_with (first
   | (at_builtin; refine wpList_append_came (fun x => [cI x]) 1 8 (.int .i64 0) 23 3 Tryz.underlying23 infoInt rfl (by decide) (fun _ => rfl) rfl (.tmp 16) (.tmp 18) rfl (b2 + 1) _ [] z.ids rfl (OwnG.nil _ _) B z.ids.length kB rfl rfl hcB.2.2 hI4.news hcB.1 hm1 hm2 hbase (fun x _ u hu => by simp at hu; subst hu; rfl) ?_; intro v5 w5 ho5 hg5 _; have q5 : Below (b2 + 1) (w3.setCell ⟨b2, 4, none⟩ (.slice (some ⟨g4, 0, none⟩) z.r.length c4)) w5 := below_ownG (OwnG.nil (c := fun x => [cI x]) (e := 3) (m := 1) (w3.setCell ⟨b2, 4, none⟩ (.slice (some ⟨g4, 0, none⟩) z.r.length c4)) (b2 + 1)) hg5 hbase; have hs5 := hg5.size)
   | (at_builtin; refine wpList_append_g (fun x => [cI x]) 1 8 (.int .i64 0) 23 3 Tryz.underlying23 infoInt rfl (by decide) (fun _ => rfl) rfl (.tmp 20) (.tmp 21) rfl (b2 + 1) v5 _ [901, 902] rfl (ho5.alloc _) ⟨w5.heap.size, 0, none⟩ 2 2 rfl rfl (news_two (heap_alloc_new w5 _)) (by unfold maxLen; simp; omega) (by simp; omega) (by have := hg5.size; simp only [World.size_alloc]; omega) (fun x _ u hu => by simp at hu; subst hu; rfl) ?_; intro v6 w6 ho6 hg6 _; have q6 : Below (b2 + 1) w5 w6 := (below_alloc w5 _).mono (by omega) |>.trans (below_ownG (ho5.alloc _) hg6 (by simp only [World.size_alloc]; omega)); have q46 := q5.trans q6; have z6 : ZB w6 w.heap.size _ _ _ _ _ _ := (q46.block _ (by omega)).trans z4; obtain ⟨x0, x1, x2, x3, x4, x5⟩ := cells6 z6; have t6 : ZB w6 b2 _ _ _ _ _ _ := (q46.block _ (by omega)).trans tt4; obtain ⟨y0, y1, y2, y3, y4, y5⟩ := cells6 t6; have fr6 := (fun j => frozen_of_row w6 _ j _ _ t6); have ho7 := Lib.hid ho6; obtain ⟨gI, kI, rfl, hgI, hkI, hkI2⟩ := ids_shape ho6))
 have hv6c := ((hvc.far hg5 (fun g e => by cases e) (t0 := 3) (by decide)).below (below_alloc w5 (.cells #[.int .i64 901, .int .i64 902] 3))).far hg6 (fun g e => (ho5.alloc _).typed g e) (by decide)
 have hv6r := ((hvr.far hg5 (fun g e => by cases e) (t0 := 3) (by decide)).below (below_alloc w5 (.cells #[.int .i64 901, .int .i64 902] 3))).far hg6 (fun g e => (ho5.alloc _).typed g e) (by decide)
 obtain ⟨t7, tg7⟩ := t6.set2 (.slice (some ⟨gI, 0, none⟩) z.ids.length kI)
 have r6 : ZB w6 b1 _ _ _ _ _ _ := (q46.block _ (by omega)).trans r4
 have bb6 := bb4.trans (q46.mono (by omega))
 have hs6 := q46.size
 have z7 : ZB _ w.heap.size _ _ _ _ _ _ := (tg7.block _ (by omega) (fun e => by cases e; omega)).trans z6
 have r7 : ZB _ b1 _ _ _ _ _ _ := (tg7.block _ (by omega) (fun e => by cases e; omega)).trans r6
 have hv7c := hv6c.far tg7 (fun g e => by cases e; exact t6.typed) (by decide)
 have hv7r := hv6r.far tg7 (fun g e => by cases e; exact t6.typed) (by decide)
 have ho8 := (ho7.out).farR tg7 (fun g e => by cases e; exact t6.typed) (by decide)
 have bb7 := bb6.trans (below_row tg7 (by omega) (by omega))
 have hs7 := tg7.size
 generalize w6.setCell ⟨b2, 2, none⟩ (.slice (some ⟨gI, 0, none⟩) z.ids.length kI) = W7 at *
 clear hv6c hv6r t6 tg7 r6 bb6 z6 q46 q6 q5 hg5 hg6 ho5 ho7 hvc hvr bb4 bb3 z4 z3 r3 r4 t3 tt4 tg4 hv3 hv4' y0 y1 y2 y3 y4 y5 x0 x1 x2 x3 x4 x5 fr6 fr4 hm1 hm2 hI4
 have hsz7 : b2 + 1 ≤ W7.heap.size := by omega
 clear ho6 hs5 hs6 hbase
 clear hs1 hs2 hs3 hs4 hs7
 have hlg := hk.lg
 unfold MAXG at hlg
 go_loopw [5, 6] (fun vG i wr => ∃ (k : Nat) (vals : List Value), k ≤ z.g.length ∧ i = .int .i64 (k : Nat) ∧ WAcc (b2 + 1) wr vG vals (z.g.take k) ∧ ZB wr w.heap.size (.int .i64 z.n) (.slice A z.c.length kA) (.slice B z.ids.length kB) (.slice C z.g.length kC) (.slice D z.r.length kD) (.bool z.bad) ∧ ZB wr b1 (.int .i64 0) (.slice none 0 0) (.slice none 0 0) (.slice none 0 0) (.slice none 0 0) (.bool false) ∧ ZB wr b2 (.int .i64 z.n) (.slice (some ⟨g1, 0, none⟩) z.c.length c1) (.slice (some ⟨gI, 0, none⟩) z.ids.length kI) (.slice C z.g.length kC) (.slice (some ⟨g4, 0, none⟩) z.r.length c4) (.bool z.bad) ∧ WideAt wr (b2 + 1) (.slice (some ⟨g1, 0, none⟩) z.c.length c1) z.c ∧ WideAt wr (b2 + 1) (.slice (some ⟨g4, 0, none⟩) z.r.length c4) z.r ∧ OwnG (fun x => [cI x]) 3 1 wr (b2 + 1) (.slice (some ⟨gI, 0, none⟩) (z.ids.length + 2) kI) ([] ++ z.ids ++ [901, 902]) ∧ Below w.heap.size w wr ∧ b2 + 1 ≤ wr.heap.size) (fun _ i _ => z.g.length - (intOf i).toNat)
 case atStart => exact ⟨0, [], Nat.zero_le _, rfl, WAcc.nil _ _, z7, r7, t7, hv7c, hv7r, ho8, bb7, hsz7⟩
 case round =>
  obtain ⟨k, vals, hkk, rfl, hG, hz, hr, ht, hvc, hvr, ho, hb, hsz⟩ := hrel
  clear z7 r7 t7 hv7c hv7r ho8 bb7 hsz7
  obtain ⟨_, _, _, x3, _, _⟩ := cells6 hz
  by_cases hlt : k < z.g.length
  ·have hlt' : (k : Int) < (z.g.length : Int) := by omega
   obtain ⟨g', hg0⟩ := get_some z.g k hlt
   obtain ⟨b, o, rfl, hbb, B', cap', q5, hcap', hcm', hg'⟩ := h.g.at hb k g' hg0
   have hgB := (hk.g g' (List.mem_of_getElem? hg0)).2
   have hvl : vals.length ≤ k := by rw [hG.len]; exact List.length_take_le _ _
   have hA' : B' = none → cap' = 0 := hgn k g' hg0 b o B' g'.length cap' rfl ((hb.cell (p := ⟨b, o + k, none⟩) hbb).symm.trans q5)
   have hwd := wide_any wr B' g'.length cap' g' (hg'.below (Nat.le_refl _) (Below.refl _ _)) rfl hgB hA' hcap'
   have HT := Lib.hid (take_more z.g k g' hg0)
   clear hg0 hg' hA' hgn
   go_wp2_with fail
   refine hwd.mono ?_
   rintro e w9 ⟨v9, rfl, hv9, hb9⟩
   have hG9 := (hG.below hb9).below (below_alloc w9 (.cells #[v9] 22))
   have hz9 := (hz.below hb9).below (below_alloc w9 (.cells #[v9] 22))
   have hr9 := (hr.below hb9).below (below_alloc w9 (.cells #[v9] 22))
   have ht9 := (ht.below hb9).below (below_alloc w9 (.cells #[v9] 22))
   have hvc9 := (hvc.below hb9).below (below_alloc w9 (.cells #[v9] 22))
   have hvr9 := (hvr.below hb9).below (below_alloc w9 (.cells #[v9] 22))
   have ho9 := (ho.below hb9).below (below_alloc w9 (.cells #[v9] 22))
   have hvn9 := (hv9.low hsz).below (below_alloc w9 (.cells #[v9] 22))
   have hbb9 := hb.trans ((hb9.mono hb.size).trans ((below_alloc w9 (.cells #[v9] 22)).mono (by have := hb.size; have := hb9.size; omega)))
   have hsz9 : b2 + 1 ≤ (w9.alloc (.cells #[v9] 22)).heap.size := by have := hb9.size; rw [World.size_alloc]; omega
   have hcell9 := cell_new0 w9 v9 22
   clear hG hz hr ht hvc hvr ho hb hsz hb9 hwd
   obtain ⟨g9, c9, rfl, hv9'⟩ := hv9
   go_wp2_with (at_builtin; refine wpList_app1 cV 24 (.slice none 0 0) 24 22 Tryz.underlying24 infoLF rfl rfl (.tmp 36) (.tmp 43) rfl (b2 + 1) u5 vals (.slice (some ⟨g9, 0, none⟩) g'.length c9) (.slice (some ⟨g9, 0, none⟩) g'.length c9) w9.heap.size rfl rfl hG9.own rfl rfl hcell9 (by omega) (by omega) hsz9 ?_; intro v10 w10 ho10 hg10 _)
   have q := below_ownG hG9.own hg10 hsz9
   have hty := fun g e => hG9.own.typed g e
   have hGn := hG9.add hvn9 ho10 hg10
   rw [← HT.out] at hGn
   refine ⟨⟨k + 1, _, by omega, by go_num, hGn, (q.block _ (by omega)).trans hz9, (q.block _ (by omega)).trans hr9, (q.block _ (by omega)).trans ht9, hvc9.far hg10 hty (by decide), hvr9.far hg10 hty (by decide), ho9.farR hg10 hty (by decide), hbb9.trans (q.mono (by omega)), by have := q.size; omega⟩, by simp [intOf]; omega⟩
  ·obtain rfl : k = z.g.length := by omega
   have hlt' : decide (((z.g.length : Nat) : Int) < (z.g.length : Nat)) = false := by simp
   rw [List.take_of_length_le (Nat.le_refl _)] at hG
   have hvl := hG.len
   have hq1 := below_alloc wr (.cells #[.float .f64 4651136495631990784] 43)
   have hq2 := hq1.trans ((below_alloc (wr.alloc (.cells #[.float .f64 4651136495631990784] 43)) (.cells #[.slice (some ⟨wr.heap.size, 0, none⟩) 1 1] 22)).mono hq1.size)
   have hG9 := hG.below hq2
   have hcm := (Below.heap_alloc (wr.alloc (.cells #[.float .f64 4651136495631990784] 43)) (.cells #[.slice (some ⟨wr.heap.size, 0, none⟩) 1 1] 22) wr.heap.size (by simp)).trans (heap_alloc_new wr _)
   have hsz9 : b2 + 1 ≤ ((wr.alloc (.cells #[.float .f64 4651136495631990784] 43)).alloc (.cells #[.slice (some ⟨wr.heap.size, 0, none⟩) 1 1] 22)).heap.size := by have := hq2.size; omega
   have hcell9 := cell_new0 (wr.alloc (.cells #[.float .f64 4651136495631990784] 43)) (.slice (some ⟨wr.heap.size, 0, none⟩) 1 1) 22
   rw [World.size_alloc] at hcell9
   have hz9 := hz.below hq2
   have hr9 := hr.below hq2
   have ht9 := ht.below hq2
   clear hgn
   go_wp2_with (at_builtin; refine wpList_app1 cV 24 (.slice none 0 0) 24 22 Tryz.underlying24 infoLF rfl rfl (.tmp 45) (.tmp 47) rfl (b2 + 1) u5 vals (.slice (some ⟨wr.heap.size, 0, none⟩) 1 1) (.slice (some ⟨wr.heap.size, 0, none⟩) 1 1) (wr.heap.size + 1) rfl rfl hG9.own rfl rfl hcell9 (by omega) (by omega) hsz9 ?_; intro v10 w10 ho10 hg10 _; have q := below_ownG hG9.own hg10 hsz9; have zA := (q.block _ (by omega)).trans hz9; have tA : ZB w10 b2 _ _ _ _ _ _ := (q.block _ (by omega)).trans ht9; have HO10 := Lib.hid ho10; obtain ⟨gG, kG, rfl, hgG, hkG, hkG2⟩ := rows_shape ho10; rw [hvl] at hkG hkG2; obtain ⟨x0, x1, x2, x3, x4, x5⟩ := cells6 zA; obtain ⟨y0, y1, y2, y3, y4, y5⟩ := cells6 tA; have frA := (fun j => frozen_of_row w10 _ j _ _ tA); obtain ⟨tB, gB⟩ := tA.set3 (.slice (some ⟨gG, 0, none⟩) z.g.length kG); have rA : ZB w10 b1 _ _ _ _ _ _ := (q.block _ (by omega)).trans hr9; have rB : ZB _ b1 _ _ _ _ _ _ := (gB.block _ (by have := q.size; omega) (fun e => by cases e; omega)).trans rA; obtain ⟨q0, q1, q2, q3, q4, q5⟩ := cells6 rB; have frB := (fun j => frozen_of_row _ _ j _ _ rB))
   have hty := fun g e => hG9.own.typed g e
   have hvcA := ((hvc.below hq2).far hg10 hty (by decide)).far gB (fun g e => by cases e; exact tA.typed) (by decide)
   have hvrA := ((hvr.below hq2).far hg10 hty (by decide)).far gB (fun g e => by cases e; exact tA.typed) (by decide)
   have hoA := ((ho.below hq2).farR hg10 hty (by decide)).farR gB (fun g e => by cases e; exact tA.typed) (by decide)
   obtain ⟨r6, gC⟩ := set6 rB (.int .i64 z.n) (.slice (some ⟨g1, 0, none⟩) z.c.length c1) (.slice (some ⟨gI, 0, none⟩) z.ids.length kI) (.slice (some ⟨gG, 0, none⟩) z.g.length kG) (.slice (some ⟨g4, 0, none⟩) z.r.length c4) (.bool z.bad)
   have tyC : ∀ g, some b1 = some g → Typed _ g 26 := fun g e => by cases e; exact rB.typed
   have tyB : ∀ g, some b2 = some g → Typed w10 g 26 := fun g e => by cases e; exact tA.typed
   have m1 := hg10.block wr.heap.size (by have := (Array.getElem?_eq_some_iff.1 hcm).1; exact this) (fun e => Typed.ne (hty _ e.symm) ⟨_, hcm⟩ (by decide) rfl)
   have m2 := m1.trans hcm
   have m3 := (gB.block wr.heap.size (Array.getElem?_eq_some_iff.1 m2).1 (fun e => by cases e; omega)).trans m2
   have m4 := (gC.block wr.heap.size (Array.getElem?_eq_some_iff.1 m3).1 (fun e => by cases e; omega)).trans m3
   have hvcC := hvcA.far gC tyC (by decide)
   have hvrC := hvrA.far gC tyC (by decide)
   have hoC := hoA.farR gC tyC (by decide)
   have hOC := ((HO10.out).farR gB tyB (by decide)).farR gC tyC (by decide)
   have hrows : ∀ (j : Nat) (us : List Nat), z.g[j]? = some us → ∃ u, vals[j]? = some u ∧ WideAt _ (b2 + 1) u us := fun j us hu => by
    obtain ⟨u, h1, h2⟩ := hG9.rows j us hu
    exact ⟨u, h1, ((h2.far hg10 hty (by decide)).far gB tyB (by decide)).far gC tyC (by decide)⟩
   have hbq := (hb.trans (hq2.mono hb.size)).trans (q.mono (by omega))
   have hbC := (hbq.trans (below_row gB (by omega) hbq.size)).trans (below_row gC (by omega) (by have := hbq.size; have := gB.size; omega))
   obtain ⟨c0, c1', c2, c3, c4', c5⟩ := cells6 r6
   rw [hvl] at hOC
   refine bodyPost_ret (v := .agg #[.int .i64 z.n, .slice (some ⟨g1, 0, none⟩) z.c.length c1, .slice (some ⟨gI, 0, none⟩) z.ids.length kI, .slice (some ⟨gG, 0, none⟩) z.g.length kG, .slice (some ⟨g4, 0, none⟩) z.r.length c4, .bool z.bad]) (by simp [results, Tryz.results17, go_sem, c0, c1', c2, c3, c4', c5]) rfl ?_
   exact ⟨_, b2 + 1, rfl, by omega, ⟨g1, c1, gI, kI, gG, kG, g4, c4, wr.heap.size, vals, rfl, hvcC, hvrC, hoC, hOC, hvl, hrows, (Array.getElem?_eq_some_iff.1 m4).1, (cell_of_row _ _ _ _ _ _ m4).trans rfl⟩, hbC⟩
end Go.Proofs.YtpfbgenefjhcjaaGreatDoor
namespace Go.Proofs.YtpfbgenefjhcjaaGreatDoor
set_option linter.unusedVariables false
set_option linter.unusedSimpArgs false
open Go Go.RowKit
set_option maxRecDepth 100000
set_option maxHeartbeats 8000000 in
theorem Same10_yes (w : World) (A B C D A' B' C' D' : Option Addr) (kA kB kC kD kA' kB' kC' kD' : Nat) (z : ZD) (h : ZCells w z A B C D kA kB kC kD) (h' : ZC cU w z A' B' C' D' kA' kB' kC' kD') (hk : ZOk z) :
  Calls Tryz.prog 46 #[zval z A B C D kA kB kC kD, zval z A' B' C' D' kA' kB' kC' kD'] w fun e w' => e = .returned (.bool true) ∧ Below w.heap.size w w' := by
 obtain ⟨f0, f1, f2, f3⟩ := two_blocks w (.cells #[.int .i64 z.n, .slice A z.c.length kA, .slice B z.ids.length kB, .slice C z.g.length kC, .slice D z.r.length kD, .bool z.bad] 26) (.cells #[.int .i64 z.n, .slice A' z.c.length kA', .slice B' z.ids.length kB', .slice C' z.g.length kC', .slice D' z.r.length kD', .bool z.bad] 30)
 have hs1 := fun w1 (hb : Below w.heap.size w w1) => same10_yes w1 A A' z.c.length kA kA' z.c (h.c.below (Nat.le_refl _) hb) (h'.c.below (Nat.le_refl _) hb) rfl hk.lc
 have hs2 := fun w1 (hb : Below w.heap.size w w1) => same10_yes w1 D D' z.r.length kD kD' z.r (h.r.below (Nat.le_refl _) hb) (h'.r.below (Nat.le_refl _) hb) rfl hk.lr
 unfold zval
 go_enter Tryz.func46, Tryz.ntmps46
 obtain ⟨x0, x1, x2, x3, x4, x5⟩ := cells6 f0
 obtain ⟨y0, y1, y2, y3, y4, y5⟩ := cells6 f1
 go_wp2_with fail
 refine (hs1 _ f3).mono ?_
 rintro e w1 ⟨rfl, hb⟩
 have hb1 := f3.trans (hb.mono f3.size)
 have hsz := hb.size
 rw [f2] at hsz
 have g0 := (hb.block _ (by omega)).trans f0
 have g1 := (hb.block _ (by omega)).trans f1
 have hs2' := hs2 w1 hb1
 clear x0 x1 x2 x3 x4 x5 y0 y1 y2 y3 y4 y5 f0 f1 f2 f3 hs1 hs2 hb
 obtain ⟨x0, x1, x2, x3, x4, x5⟩ := cells6 g0
 obtain ⟨y0, y1, y2, y3, y4, y5⟩ := cells6 g1
 clear x0 x1 x2 x3 x5 y0 y1 y2 y3 y5
 go_wp2_with fail
 refine hs2'.mono ?_
 rintro e w2 ⟨rfl, hb⟩
 have hb2 := hb1.trans (hb.mono hb1.size)
 have k0 := (hb.block _ (by omega)).trans g0
 have k1 := (hb.block _ (by omega)).trans g1
 clear x4 y4 g0 g1 hb hb1 hs2'
 go_wp2_with fail
 have hli := hk.li
 have hlg := hk.lg
 unfold MAXF at hli
 unfold MAXG at hlg
 go_loopw [5] (fun kk wr => ∃ k : Nat, k ≤ z.ids.length ∧ kk = .int .i64 (k : Nat) ∧ wr.heap[w.heap.size]? = some (.cells #[.int .i64 z.n, .slice A z.c.length kA, .slice B z.ids.length kB, .slice C z.g.length kC, .slice D z.r.length kD, .bool z.bad] 26 (0, 0)) ∧ wr.heap[w.heap.size + 1]? = some (.cells #[.int .i64 z.n, .slice A' z.c.length kA', .slice B' z.ids.length kB', .slice C' z.g.length kC', .slice D' z.r.length kD', .bool z.bad] 30 (0, 0)) ∧ Below w.heap.size w wr) (fun kk _ => z.ids.length - (intOf kk).toNat)
 case atStart => exact ⟨0, by omega, rfl, k0, k1, hb2⟩
 case round =>
  obtain ⟨k, hkL, rfl, h0, h1, hb⟩ := hrel
  clear k0 k1 hb2
  obtain ⟨x0, x1, x2, x3, x4, x5⟩ := cells6 h0
  obtain ⟨y0, y1, y2, y3, y4, y5⟩ := cells6 h1
  clear x0 x1 x4 x5 y0 y1 y4 y5
  by_cases hlt : k < z.ids.length
  ·have hlt' : (k : Int) < (z.ids.length : Int) := by omega
   obtain ⟨a, ha⟩ := get_some z.ids k hlt
   obtain ⟨bi, oi, rfl, hbi, hci⟩ := h.ids.at hb k a ha
   obtain ⟨bi', oi', rfl, hbi', hci'⟩ := h'.ids.at hb k a ha
   have hci1 : wr.cell? ⟨bi, oi + k, none⟩ = some (.int .i64 a) := hci
   have hci2 : wr.cell? ⟨bi', oi' + k, none⟩ = some (.int .i64 a) := hci'
   clear hci hci' x3 y3
   go_wp2_with fail
   go_still (by kernel_rfl)
   show Exit.then _ _ Exit.normal _ wr.drew
   go_wp2_with fail
   go_roundw
   case rel => exact ⟨k + 1, by omega, by go_num, h0, h1, hb.drew⟩
   case measure => simp [intOf]; omega
  ·obtain rfl : k = z.ids.length := by omega
   have hlt' : decide (((z.ids.length : Nat) : Int) < (z.ids.length : Nat)) = false := by simp
   go_wp2_with fail
   clear x2 x3 y2 y3
   go_loopw [6] (fun kk w5 => ∃ k : Nat, k ≤ z.g.length ∧ kk = .int .i64 (k : Nat) ∧ w5.heap[w.heap.size]? = some (.cells #[.int .i64 z.n, .slice A z.c.length kA, .slice B z.ids.length kB, .slice C z.g.length kC, .slice D z.r.length kD, .bool z.bad] 26 (0, 0)) ∧ w5.heap[w.heap.size + 1]? = some (.cells #[.int .i64 z.n, .slice A' z.c.length kA', .slice B' z.ids.length kB', .slice C' z.g.length kC', .slice D' z.r.length kD', .bool z.bad] 30 (0, 0)) ∧ Below w.heap.size w w5) (fun kk _ => z.g.length - (intOf kk).toNat)
   case atStart => exact ⟨0, by omega, rfl, h0, h1, hb⟩
   case round =>
    rename_i wq
    clear h0 h1 hb
    obtain ⟨k, hkL, rfl, h0, h1, hb⟩ := hrel
    obtain ⟨x0, x1, x2, x3, x4, x5⟩ := cells6 h0
    obtain ⟨y0, y1, y2, y3, y4, y5⟩ := cells6 h1
    clear x0 x1 x2 x4 x5 y0 y1 y2 y4 y5
    by_cases hlt : k < z.g.length
    ·have hlt' : (k : Int) < (z.g.length : Int) := by omega
     obtain ⟨g', hg0⟩ := get_some z.g k hlt
     obtain ⟨bc, oc, rfl, hbc, Bz, cz, hcz, hcz1, hcz2, hcz3⟩ := h.g.at hb k g' hg0
     obtain ⟨bc', oc', rfl, hbc', By, cy, hcy, hcy1, hcy2, hcy3⟩ := h'.g.at hb k g' hg0
     have hgM := (hk.g g' (List.mem_of_getElem? hg0)).2
     have hsm := fun w1 (hb : Below wr.heap.size wr w1) => same10_yes w1 Bz By g'.length cz cy g' (hcz3.below (Nat.le_refl _) hb) (hcy3.below (Nat.le_refl _) hb) rfl hgM
     have hsm1 := hsm wr.drew (Below.refl _ wr).drew
     clear hsm hg0 hcz3 hcy3
     go_wp2_with fail
     go_still_tail 10, (by kernel_rfl)
     change wpList _ _ _ _ _ wr.drew
     go_wp2_with fail
     refine hsm1.mono ?_
     rintro e w7 ⟨rfl, hb7⟩
     have n0 := (hb7.block _ (Array.getElem?_eq_some_iff.1 h0).1).trans h0
     have n1 := (hb7.block _ (Array.getElem?_eq_some_iff.1 h1).1).trans h1
     clear x3 y3 hcz hcy
     go_wp2_with fail
     go_roundw
     case rel => exact ⟨k + 1, by omega, by go_num, n0, n1, hb.drew.trans (hb7.mono hb.drew.size)⟩
     case measure => simp [intOf]; omega
    ·obtain rfl : k = z.g.length := by omega
     have hlt' : decide (((z.g.length : Nat) : Int) < (z.g.length : Nat)) = false := by simp
     go_wp2_with fail
     go_ret
     exact ⟨rfl, hb⟩
end Go.Proofs.YtpfbgenefjhcjaaGreatDoor
namespace Go.Proofs.YtpfbgenefjhcjaaGreatDoor
set_option linter.unusedVariables false
set_option linter.unusedSimpArgs false
open Go Go.RowKit
set_option maxRecDepth 100000
theorem ownG_cell {α : Type} {c : α → Value} {e : TypeId} {w : World} {base g n cap : Nat} {xs : List α} (h : OwnG (fun x => [c x]) e 1 w base (.slice (some ⟨g, 0, none⟩) n cap) xs) (j : Nat) (x : α) (hx : xs[j]? = some x) : w.cell? ⟨g, j, none⟩ = some (c x) ∧ g < w.heap.size ∧ xs.length = n ∧ n ≤ cap ∧ cap ≤ maxLen := by
 rcases h.row with ⟨h1, _⟩ | ⟨g', cap', he, hb, hg, hn, hm, hc⟩
 ·simp at h1
 ·injection he with h1 h2 h3
  injection h1 with h1
  injection h1 with h1 _ _
  subst h1
  subst h2
  subst h3
  have h4 := flat_get (fun x => [c x]) 1 (fun _ => rfl) xs j x hx 0 (by omega)
  rw [show j * 1 + 0 = j by omega] at h4
  exact ⟨hc _ _ h4, hg, rfl, hn, hm⟩
/-- Read as a zonotope that came in. -/
theorem LaidAt.cells {w : World} {base : Nat} {v : Value} {z : ZD} (h : LaidAt w base v z) (hk : ZOk z) : ZIs w v z := by
 obtain ⟨g1, c1, gI, kI, gG, kG, g4, c4, gm, vals, rfl, hvc, hvr, ho, hG, hvl, hrows, hgm, hcm⟩ := h
 obtain ⟨A, cA, eA, a1, a2, a3, a4⟩ := hvc.list
 obtain ⟨D, cD, eD, d1, d2, d3, d4⟩ := hvr.list
 injection eA with eA1 _ eA3
 injection eD with eD1 _ eD3
 subst eA1
 subst eD1
 subst eA3
 subst eD3
 refine ⟨_, _, _, _, c1, kI, kG, c4, rfl, a4, fun j x hx => ?_, fun k g hg => ?_, d4, ⟨a1, a2, a3⟩, ?_, ?_, ⟨d1, d2, d3⟩⟩
 ·have := ownG_cell ho j x (by rw [List.nil_append, List.getElem?_append_left (List.getElem?_eq_some_iff.1 hx).1]; exact hx)
  exact ⟨gI, 0, rfl, this.2.1, by rw [Nat.zero_add]; exact this.1⟩
 ·obtain ⟨u, hu, hw⟩ := hrows k g hg
  obtain ⟨B, cap, eB, b1, b2, b3, b4⟩ := hw.list
  have := ownG_cell hG k u (by rw [List.getElem?_append_left (List.getElem?_eq_some_iff.1 hu).1]; exact hu)
  subst eB
  exact ⟨gG, 0, rfl, this.2.1, B, cap, by rw [Nat.zero_add]; exact this.1, b1, b2, b4⟩
 ·have := ownG_cell ho z.ids.length 901 (by rw [List.nil_append, List.getElem?_append_right (Nat.le_refl _), Nat.sub_self]; rfl)
  exact ⟨by omega, this.2.2.2.2, fun e => by cases e⟩
 ·have := ownG_cell hG vals.length (.slice (some ⟨gm, 0, none⟩) 1 1) (by rw [List.getElem?_append_right (Nat.le_refl _), Nat.sub_self]; rfl)
  exact ⟨by omega, this.2.2.2.2, fun e => by cases e⟩
end Go.Proofs.YtpfbgenefjhcjaaGreatDoor
namespace Go.Proofs.YtpfbgenefjhcjaaGreatDoor
set_option linter.unusedVariables false
set_option linter.unusedSimpArgs false
open Go Go.RowKit
set_option maxRecDepth 100000
theorem num_any (n : Int) (w : World) : Calls Tryz.prog 18 #[.int .i64 n] w fun e w' => e = .returned (.int .i64 n) ∧ w' = w := by
 go_enter Tryz.func18, Tryz.ntmps18
 go_wp2_with fail
 go_ret
 exact ⟨rfl, rfl⟩
set_option maxHeartbeats 8000000 in
theorem Held_any (w : World) (base : Nat) (v v' : Value) (z : ZD) (h : LaidAt w base v z) (h' : UIs w v' z) (hk : ZOk z) :
  Calls Tryz.prog 21 #[v, v'] w fun e w' => e = .returned (.bool true) ∧ Below w.heap.size w w' := by
 have hZ := h.cells hk
 obtain ⟨A', B', C', D', kA', kB', kC', kD', rfl, hc'⟩ := h'
 obtain ⟨g1, c1, gI, kI, gG, kG, g4, c4, gm, vals, rfl, hvc, hvr, ho, hG, hvl, hrows, hgm, hcm⟩ := h
 obtain ⟨A, B, C, D, kA, kB, kC, kD, e0, hc⟩ := hZ
 unfold zval at e0
 injection e0 with e0
 injection e0 with e0
 simp only [List.cons.injEq, Value.slice.injEq, and_true, true_and] at e0
 obtain ⟨⟨rfl, rfl⟩, ⟨rfl, rfl⟩, ⟨rfl, rfl⟩, ⟨rfl, rfl⟩⟩ := e0
 obtain ⟨f0, f1, f2, f3⟩ := two_blocks w (.cells #[.int .i64 z.n, .slice (some ⟨g1, 0, none⟩) z.c.length c1, .slice (some ⟨gI, 0, none⟩) z.ids.length kI, .slice (some ⟨gG, 0, none⟩) z.g.length kG, .slice (some ⟨g4, 0, none⟩) z.r.length c4, .bool z.bad] 26) (.cells #[.int .i64 z.n, .slice A' z.c.length kA', .slice B' z.ids.length kB', .slice C' z.g.length kC', .slice D' z.r.length kD', .bool z.bad] 30)
 have hsm := Same10_yes _ _ _ _ _ A' B' C' D' c1 kI kG c4 kA' kB' kC' kD' z (hc.below f3) (hc'.below f3) hk
 unfold zval at hsm ⊢
 go_enter Tryz.func21, Tryz.ntmps21
 go_wp2_with fail
 refine hsm.mono ?_
 rintro e w1 ⟨rfl, hb⟩
 have hb1 := f3.trans (hb.mono f3.size)
 have hsz := hb.size
 rw [f2] at hsz
 have g0 := (hb.block _ (by omega)).trans f0
 have hk1 := kept_any w1 base _ z.c z.c.length (hvc.below hb1) rfl hk.lc
 have hk2 := kept_any w1 base _ z.r z.r.length (hvr.below hb1) rfl hk.lr
 obtain ⟨x0, x1, x2, x3, x4, x5⟩ := cells6 g0
 clear f0 f1 f2 f3 hsm hb
 go_wp2_with fail
 refine hk1.mono ?_
 rintro e w1' ⟨rfl, rfl⟩
 go_wp2_with fail
 refine hk2.mono ?_
 rintro e w1' ⟨rfl, rfl⟩
 have hI := ownG_cell ho z.ids.length 901 (by rw [List.nil_append, List.getElem?_append_right (Nat.le_refl _), Nat.sub_self]; rfl)
 have hI2 := ownG_cell ho (z.ids.length + 1) 902 (by rw [List.nil_append, List.getElem?_append_right (by omega), Nat.add_sub_cancel_left]; rfl)
 have hGm := ownG_cell hG vals.length (.slice (some ⟨gm, 0, none⟩) 1 1) (by rw [List.getElem?_append_right (Nat.le_refl _), Nat.sub_self]; rfl)
 have m1 : w1'.cell? ⟨gI, z.ids.length, none⟩ = some (.int .i64 901) := (hb1.cell (p := ⟨gI, z.ids.length, none⟩) hI.2.1).trans hI.1
 have m2 : w1'.cell? ⟨gI, z.ids.length + 1, none⟩ = some (.int .i64 902) := (hb1.cell (p := ⟨gI, z.ids.length + 1, none⟩) hI.2.1).trans hI2.1
 have m3 : w1'.cell? ⟨gG, z.g.length, none⟩ = some (.slice (some ⟨gm, 0, none⟩) 1 1) := by rw [← hvl]; exact (hb1.cell (p := ⟨gG, vals.length, none⟩) hGm.2.1).trans hGm.1
 have m4 : w1'.cell? ⟨gm, 0, none⟩ = some (.float .f64 4651136495631990784) := (hb1.cell (p := ⟨gm, 0, none⟩) hgm).trans hcm
 have i1 : (z.ids.length : Int) + 2 ≤ (kI : Int) := by have := hI.2.2.2.1; omega
 have i2 : (z.g.length : Int) + 1 ≤ (kG : Int) := by have := hGm.2.2.2.1; omega
 have i3 : (z.ids.length : Int) < (z.ids.length : Int) + 2 := by omega
 have i4 : (z.g.length : Int) < (z.g.length : Int) + 1 := by omega
 have hli := hk.li
 have hlg := hk.lg
 unfold MAXF at hli
 unfold MAXG at hlg
 clear hk1 hk2 hI hI2 hGm
 have hord : FloatKind.f64.format.order 4651136495631990784 4651136495631990784 = some .eq := by decide +kernel
 go_wp2_with fail
 clear hord
 clear m1 m2 m3 m4 i1 i2 i3 i4
 go_loop [4, 9] (fun rr kk => rr = .bool false ∧ ∃ k : Nat, k ≤ z.g.length ∧ kk = .int .i64 (k : Nat)) (fun _ kk => z.g.length - (intOf kk).toNat)
 case atStart => exact ⟨rfl, 0, by omega, rfl⟩
 case round =>
  obtain ⟨rfl, k, hkL, rfl⟩ := hrel
  by_cases hlt : k < z.g.length
  ·have hlt' : (k : Int) < (z.g.length : Int) := by omega
   obtain ⟨us, hu⟩ := get_some z.g k hlt
   obtain ⟨u, hu1, hu2⟩ := hrows k us hu
   have hcu := (ownG_cell hG k u (by rw [List.getElem?_append_left (by omega)]; exact hu1))
   have hcu1 : w1'.cell? ⟨gG, k, none⟩ = some u := (hb1.cell (p := ⟨gG, k, none⟩) hcu.2.1).trans hcu.1
   have hkp := kept_any w1' base _ us us.length (hu2.below hb1) rfl (hk.g us (List.mem_of_getElem? hu)).2
   obtain ⟨gu, cu, rfl, hu3⟩ := hu2
   clear hcu hu hu1
   go_wp2_with fail
   refine hkp.mono ?_
   rintro e w5 ⟨rfl, rfl⟩
   go_wp2_with fail
   go_round
   case rel => exact ⟨rfl, k + 1, by omega, by go_num⟩
   case measure => simp [intOf]; omega
  ·obtain rfl : k = z.g.length := by omega
   have hlt' : decide (((z.g.length : Nat) : Int) < (z.g.length : Nat)) = false := by simp
   go_wp2_with fail
   go_ret
   exact ⟨rfl, hb1⟩
end Go.Proofs.YtpfbgenefjhcjaaGreatDoor
