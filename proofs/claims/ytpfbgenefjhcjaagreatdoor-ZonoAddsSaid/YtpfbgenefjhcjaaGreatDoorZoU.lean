/- What the document's Lift, Box and New have laid, under way. -/
import Derived.Test.YtpfbgenefjhcjaaGreatDoorZoRefLow
namespace Go.Proofs.YtpfbgenefjhcjaaGreatDoor
set_option linter.unusedVariables false
set_option linter.unusedSimpArgs false
open Go Go.RowKit
set_option maxRecDepth 100000
/-- A box of the document's zonotope. -/
def UB (w : World) (b : Nat) (v0 v1 v2 v3 v4 v5 : Value) : Prop := w.heap[b]? = some (.cells #[v0, v1, v2, v3, v4, v5] 30 (0, 0))
theorem UB.typed {w : World} {b : Nat} {v0 v1 v2 v3 v4 v5 : Value} (h : UB w b v0 v1 v2 v3 v4 v5) : Typed w b 30 := ⟨_, h⟩
theorem UB.lt {w : World} {b : Nat} {v0 v1 v2 v3 v4 v5 : Value} (h : UB w b v0 v1 v2 v3 v4 v5) : b < w.heap.size := (Array.getElem?_eq_some_iff.1 h).1
theorem UB.below {w w1 : World} {b : Nat} {v0 v1 v2 v3 v4 v5 : Value} (h : UB w b v0 v1 v2 v3 v4 v5) (hb : Below w.heap.size w w1) : UB w1 b v0 v1 v2 v3 v4 v5 := (hb.block b h.lt).trans h
theorem UB.set2 {w : World} {b : Nat} {v0 v1 v2 v3 v4 v5 : Value} (h : UB w b v0 v1 v2 v3 v4 v5) (u : Value) : UB (w.setCell ⟨b, 2, none⟩ u) b v0 v1 u v3 v4 v5 ∧ w.grownBy (w.setCell ⟨b, 2, none⟩ u) (some b) := ⟨heap_setCell_same w b 2 _ _ _ h, grown_set (grown_refl w _) _ _⟩
theorem UB.set3 {w : World} {b : Nat} {v0 v1 v2 v3 v4 v5 : Value} (h : UB w b v0 v1 v2 v3 v4 v5) (u : Value) : UB (w.setCell ⟨b, 3, none⟩ u) b v0 v1 v2 u v4 v5 ∧ w.grownBy (w.setCell ⟨b, 3, none⟩ u) (some b) := ⟨heap_setCell_same w b 3 _ _ _ h, grown_set (grown_refl w _) _ _⟩
theorem UB.set4 {w : World} {b : Nat} {v0 v1 v2 v3 v4 v5 : Value} (h : UB w b v0 v1 v2 v3 v4 v5) (u : Value) : UB (w.setCell ⟨b, 4, none⟩ u) b v0 v1 v2 v3 u v5 ∧ w.grownBy (w.setCell ⟨b, 4, none⟩ u) (some b) := ⟨heap_setCell_same w b 4 _ _ _ h, grown_set (grown_refl w _) _ _⟩
theorem UB.cells {w : World} {b : Nat} {v0 v1 v2 v3 v4 v5 : Value} (h : UB w b v0 v1 v2 v3 v4 v5) : w.cell? ⟨b, 0, none⟩ = some v0 ∧ w.cell? ⟨b, 1, none⟩ = some v1 ∧ w.cell? ⟨b, 2, none⟩ = some v2 ∧ w.cell? ⟨b, 3, none⟩ = some v3 ∧ w.cell? ⟨b, 4, none⟩ = some v4 ∧ w.cell? ⟨b, 5, none⟩ = some v5 := cells6 h
theorem UB.frozen {w : World} {b : Nat} {v0 v1 v2 v3 v4 v5 : Value} (h : UB w b v0 v1 v2 v3 v4 v5) (j : Nat) : w.frozen? ⟨b, j, none⟩ = false := frozen_of_row w _ j _ _ h
theorem UB.put {w : World} {b : Nat} {v0 v1 v2 v3 v4 v5 : Value} (h : UB w b v0 v1 v2 v3 v4 v5) (b0 b1 b2 b3 b4 b5 : Value) : UB ((((((w.setCell ⟨b, 0, none⟩ b0).setCell ⟨b, 1, none⟩ b1).setCell ⟨b, 2, none⟩ b2).setCell ⟨b, 3, none⟩ b3).setCell ⟨b, 4, none⟩ b4).setCell ⟨b, 5, none⟩ b5) b b0 b1 b2 b3 b4 b5 ∧ w.grownBy ((((((w.setCell ⟨b, 0, none⟩ b0).setCell ⟨b, 1, none⟩ b1).setCell ⟨b, 2, none⟩ b2).setCell ⟨b, 3, none⟩ b3).setCell ⟨b, 4, none⟩ b4).setCell ⟨b, 5, none⟩ b5) (some b) := set6 h b0 b1 b2 b3 b4 b5
theorem UB.new (w : World) (v0 v1 v2 v3 v4 v5 : Value) : UB (w.alloc (.cells #[v0, v1, v2, v3, v4, v5] 30)) w.heap.size v0 v1 v2 v3 v4 v5 := World.alloc_heap_new _ _
/-- What has been laid: all of it behind W0; its centre and its R are whole, its Ids and columns grow. -/
structure LU (W0 : World) (gb : Nat) (n : Int) (Ac Ar : Option Addr) (nc cc nr cr : Nat) (cs rs : List Nat) (W : World) (vi vg : Value) (vals : List Value) (ids : List Int) (g : List (List Nat)) : Prop where
 bel : Below W0.heap.size W0 W
 out : UB W gb (.int .i64 n) (.slice Ac nc cc) vi vg (.slice Ar nr cr) (.bool false)
 c : TAt cU 46 W Ac cc cs
 r : TAt cU 46 W Ar cr rs
 lc : cs.length = nc
 lr : rs.length = nr
 ids : OwnG (fun x => [cI x]) 3 1 W W0.heap.size vi ids
 g : GAcc cU 46 27 W0.heap.size W vg vals g
 lo : W0.heap.size ≤ gb
section
variable {W0 : World} {gb : Nat} {n : Int} {Ac Ar : Option Addr} {nc cc nr cr : Nat} {cs rs : List Nat} {W W1 W2 : World} {vi vg vi' vg' : Value} {vals : List Value} {ids ids' : List Int} {g : List (List Nat)} {us : List Nat}
theorem LU.b (h : LU W0 gb n Ac Ar nc cc nr cr cs rs W vi vg vals ids g) (hb : Below W.heap.size W W1) : LU W0 gb n Ac Ar nc cc nr cr cs rs W1 vi vg vals ids g :=
 ⟨h.bel.trans (hb.mono h.bel.size), h.out.below hb, h.c.below hb, h.r.below hb, h.lc, h.lr, h.ids.below hb, h.g.below hb, h.lo⟩
theorem LU.size (h : LU W0 gb n Ac Ar nc cc nr cr cs rs W vi vg vals ids g) : W0.heap.size ≤ W.heap.size := h.bel.size
theorem LU.putIds (h : LU W0 gb n Ac Ar nc cc nr cr cs rs W vi vg vals ids g) (ho : OwnG (fun x => [cI x]) 3 1 W2 W0.heap.size vi' ids') (hg : W.grownBy W2 vi.ownBlock) :
  UB W2 gb (.int .i64 n) (.slice Ac nc cc) vi vg (.slice Ar nr cr) (.bool false) ∧ LU W0 gb n Ac Ar nc cc nr cr cs rs (W2.setCell ⟨gb, 2, none⟩ vi') vi' vg vals ids' g := by
 have ht := h.ids.typed
 have k0 : UB W2 gb _ _ _ _ _ _ := block_far h.out hg ht (by decide)
 obtain ⟨q1, q2⟩ := k0.set2 vi'
 have hz : ∀ k, some gb = some k → Typed W2 k 30 := fun k e => by cases e; exact k0.typed
 exact ⟨k0, (h.bel.trans (below_ownG h.ids hg h.size)).setCell (p := ⟨gb, 2, none⟩) h.lo vi', q1, (h.c.far hg ht (by decide)).far q2 hz (by decide), (h.r.far hg ht (by decide)).far q2 hz (by decide), h.lc, h.lr, ho.farR q2 hz (by decide), (h.g.farR hg ht (by decide) (by decide)).farR q2 hz (by decide) (by decide), h.lo⟩
theorem LU.putCol {A : Option Addr} {l cap : Nat} (h : LU W0 gb n Ac Ar nc cc nr cr cs rs W vi vg vals ids g) (hT : TAt cU 46 W A cap us) (hl : us.length = l) (ho : OwnG (fun x => [cV x]) 27 1 W2 W0.heap.size vg' (vals ++ [.slice A l cap])) (hg : W.grownBy W2 vg.ownBlock) :
  UB W2 gb (.int .i64 n) (.slice Ac nc cc) vi vg (.slice Ar nr cr) (.bool false) ∧ LU W0 gb n Ac Ar nc cc nr cr cs rs (W2.setCell ⟨gb, 3, none⟩ vg') vi vg' (vals ++ [.slice A l cap]) ids (g ++ [us]) := by
 subst hl
 have ht := h.g.own.typed
 have k0 : UB W2 gb _ _ _ _ _ _ := block_far h.out hg ht (by decide)
 obtain ⟨q1, q2⟩ := k0.set3 vg'
 have hz : ∀ k, some gb = some k → Typed W2 k 30 := fun k e => by cases e; exact k0.typed
 exact ⟨k0, (h.bel.trans (below_ownG h.g.own hg h.size)).setCell (p := ⟨gb, 3, none⟩) h.lo vg', q1, (h.c.far hg ht (by decide)).far q2 hz (by decide), (h.r.far hg ht (by decide)).far q2 hz (by decide), h.lc, h.lr, (h.ids.farR hg ht (by decide)).farR q2 hz (by decide), (h.g.add hT ho hg (by decide)).farR q2 hz (by decide) (by decide), h.lo⟩
theorem LU.slices (h : LU W0 gb n Ac Ar nc cc nr cr cs rs W vi vg vals ids g) : ∃ Ai ci Ag cg, vi = .slice Ai ids.length ci ∧ vg = .slice Ag g.length cg := by
 obtain ⟨Ai, ci, h3, _⟩ := h.ids.lat
 obtain ⟨Ag, cg, h4, _⟩ := h.g.row
 exact ⟨Ai, ci, Ag, cg, h3, h4⟩
theorem LU.start (hb : Below W0.heap.size W0 W) (out : UB W gb (.int .i64 n) (.slice Ac nc cc) (.slice none 0 0) (.slice none 0 0) (.slice Ar nr cr) (.bool false)) (hc : TAt cU 46 W Ac cc cs) (hr : TAt cU 46 W Ar cr rs) (lc : cs.length = nc) (lr : rs.length = nr) (lo : W0.heap.size ≤ gb) :
  LU W0 gb n Ac Ar nc cc nr cr cs rs W (.slice none 0 0) (.slice none 0 0) [] [] [] := ⟨hb, out, hc, hr, lc, lr, OwnG.nil _ _, GAcc.nil _ _ _ _ _, lo⟩
end
end Go.Proofs.YtpfbgenefjhcjaaGreatDoor
