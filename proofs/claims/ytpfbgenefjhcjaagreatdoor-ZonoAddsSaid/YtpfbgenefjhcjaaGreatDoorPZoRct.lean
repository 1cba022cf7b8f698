/-
 ambitref10.far: how far a coordinate may go; numbers in boxes.
 ambitref10.Reach: how far a zonotope reaches in a direction.
 ambitref10.Support.
-/
import Derived.Test.YtpfbgenefjhcjaaGreatDoorZoLateT
import Derived.Test.YtpfbgenefjhcjaaGreatDoorPZoReal2
import Derived.Test.YtpfbgenefjhcjaaGreatDoorPZoRea
import Derived.Test.YtpfbgenefjhcjaaGreatDoorPZoLow
namespace Go.Proofs.YtpfbgenefjhcjaaGreatDoor
set_option linter.unusedVariables false
set_option linter.unusedSimpArgs false
open Go Go.RowKit
set_option maxRecDepth 100000
/-- A number in a box. -/
def NumB (w : World) (b : Nat) (x : NV) : Prop := w.heap[b]? = some (.cells #[.bool x.neg, .slice x.A x.n x.cap, .int .i64 x.E] 70 (0, 0))
theorem NumB.lt {w : World} {b : Nat} {x : NV} (h : NumB w b x) : b < w.heap.size := (Array.getElem?_eq_some_iff.1 h).1
theorem NumB.below {w w1 : World} {b : Nat} {x : NV} (h : NumB w b x) (hb : Below w.heap.size w w1) : NumB w1 b x := (hb.block b h.lt).trans h
theorem NumB.typed {w : World} {b : Nat} {x : NV} (h : NumB w b x) : Typed w b 70 := ⟨_, h⟩
theorem cells3' {w : World} {g : Nat} {t : TypeId} {b0 b1 b2 : Value} (h : w.heap[g]? = some (.cells #[b0, b1, b2] t (0, 0))) : w.cell? ⟨g, 0, none⟩ = some b0 ∧ w.cell? ⟨g, 1, none⟩ = some b1 ∧ w.cell? ⟨g, 2, none⟩ = some b2 := by
 refine ⟨?_, ?_, ?_⟩ <;> (rw [cell_of_row _ _ _ _ _ _ h]; rfl)
theorem NumB.cells {w : World} {b : Nat} {x : NV} (h : NumB w b x) : w.cell? ⟨b, 0, none⟩ = some (.bool x.neg) ∧ w.cell? ⟨b, 1, none⟩ = some (.slice x.A x.n x.cap) ∧ w.cell? ⟨b, 2, none⟩ = some (.int .i64 x.E) := cells3' h
theorem NumB.put {w : World} {b : Nat} {x : NV} (h : NumB w b x) (y : NV) : NumB (((w.setCell ⟨b, 0, none⟩ (.bool y.neg)).setCell ⟨b, 1, none⟩ (.slice y.A y.n y.cap)).setCell ⟨b, 2, none⟩ (.int .i64 y.E)) b y ∧
  w.grownBy (((w.setCell ⟨b, 0, none⟩ (.bool y.neg)).setCell ⟨b, 1, none⟩ (.slice y.A y.n y.cap)).setCell ⟨b, 2, none⟩ (.int .i64 y.E)) (some b) := set3 h _ _ _
/-- A number of a list of lists. -/
theorem col_num {w : World} {z : ZD} {A B C D : Option Addr} {kA kB kC kD : Nat} (h : RealC w z A B C D kA kB kC kD) (k i : Nat) (hk : k < z.g.length) (hi : i < (colZ z k).length) :
  ∃ (bc oc bn on cn : Nat) (y : NV), C = some ⟨bc, oc, none⟩ ∧ bc < w.heap.size ∧ w.cell? ⟨bc, oc + k, none⟩ = some (.slice (some ⟨bn, on, none⟩) (colZ z k).length cn) ∧ bn < w.heap.size ∧ w.cell? ⟨bn, on + i * 3, none⟩ = some (.bool y.neg) ∧ w.cell? ⟨bn, on + i * 3 + 1, none⟩ = some (.slice y.A y.n y.cap) ∧ w.cell? ⟨bn, on + i * 3 + 2, none⟩ = some (.int .i64 y.E) ∧ NumR (-1074) 971 w y (fz ((colZ z k).getD i 0)) := by
 have hg : z.g[k]? = some (colZ z k) := by unfold colZ; rw [List.getD_eq_getElem?_getD, List.getElem?_eq_getElem hk, Option.getD_some]
 have hm : (z.g.map fun g => g.map fz)[k]? = some ((colZ z k).map fz) := by rw [List.getElem?_map, hg]; rfl
 obtain ⟨bc, oc, e, hb, B', cap, hc, hn⟩ := h.g k _ hm
 have hu : ((colZ z k).map fz)[i]? = some (fz ((colZ z k).getD i 0)) := by rw [List.getElem?_map, List.getElem?_eq_getElem hi, List.getD_eq_getElem?_getD, List.getElem?_eq_getElem hi]; rfl
 obtain ⟨bn, on, y, e2, h1, h2, h3, h4, h5⟩ := hn.row i _ hu
 rw [List.length_map, e2] at hc
 exact ⟨bc, oc, bn, on, cap, y, e, hb, hc, h1, h2, h3, h4, h5⟩
theorem row_num {lo hi : Int} {w : World} {A : Option Addr} {cap : Nat} {us : List Nat} (h : NLt lo hi w A cap (us.map fz)) (i : Nat) (hi' : i < us.length) :
  ∃ (bn on : Nat) (y : NV), A = some ⟨bn, on, none⟩ ∧ bn < w.heap.size ∧ w.cell? ⟨bn, on + i * 3, none⟩ = some (.bool y.neg) ∧ w.cell? ⟨bn, on + i * 3 + 1, none⟩ = some (.slice y.A y.n y.cap) ∧ w.cell? ⟨bn, on + i * 3 + 2, none⟩ = some (.int .i64 y.E) ∧ NumR lo hi w y (fz (us.getD i 0)) := by
 have hu : (us.map fz)[i]? = some (fz (us.getD i 0)) := by rw [List.getElem?_map, List.getElem?_eq_getElem hi', List.getD_eq_getElem?_getD, List.getElem?_eq_getElem hi']; rfl
 obtain ⟨bn, on, y, e2, h1, h2, h3, h4, h5⟩ := h.row i _ hu
 exact ⟨bn, on, y, e2, h1, h2, h3, h4, h5⟩
end Go.Proofs.YtpfbgenefjhcjaaGreatDoor
namespace Go.Proofs.YtpfbgenefjhcjaaGreatDoor
set_option linter.unusedVariables false
set_option linter.unusedSimpArgs false
open Go Go.RowKit
set_option maxRecDepth 100000
/-- Reach, under way. -/
structure RchSt (w W : World) (bs : Nat) (bx : Array Value) (x : NV) (s : Int) : Prop where
 box : W.heap[w.heap.size]? = some (.cells bx 61 (0, 0))
 res : W.heap[w.heap.size + 1]? = some (.cells #[.bool false, .slice none 0 0, .int .i64 0] 70 (0, 0))
 num : NumB W bs x
 is : NumR (-2148) 1942 W x s
 low : w.heap.size + 1 + 1 ≤ bs
 below : Below w.heap.size w W
theorem RchSt.b {w W W1 : World} {bs : Nat} {bx : Array Value} {x : NV} {s : Int} (h : RchSt w W bs bx x s) (hb : Below W.heap.size W W1) : RchSt w W1 bs bx x s :=
 ⟨(hb.block _ (Array.getElem?_eq_some_iff.1 h.box).1).trans h.box, (hb.block _ (Array.getElem?_eq_some_iff.1 h.res).1).trans h.res, h.num.below hb, h.is.below hb, h.low, h.below.trans (hb.mono h.below.size)⟩
theorem RchSt.put {w W W1 : World} {bs : Nat} {bx : Array Value} {x y : NV} {s t : Int} (h : RchSt w W bs bx x s) (hb : Below W.heap.size W W1) (hy : NumR (-2148) 1942 W1 y t) :
  RchSt w (((W1.setCell ⟨bs, 0, none⟩ (.bool y.neg)).setCell ⟨bs, 1, none⟩ (.slice y.A y.n y.cap)).setCell ⟨bs, 2, none⟩ (.int .i64 y.E)) bs bx y t ∧ W1.grownBy (((W1.setCell ⟨bs, 0, none⟩ (.bool y.neg)).setCell ⟨bs, 1, none⟩ (.slice y.A y.n y.cap)).setCell ⟨bs, 2, none⟩ (.int .i64 y.E)) (some bs) := by
 have h' := h.b hb
 obtain ⟨n1, n2⟩ := h'.num.put y
 have hlo := h.low
 exact ⟨⟨(n2.block _ (Array.getElem?_eq_some_iff.1 h'.box).1 (fun e => by cases e; omega)).trans h'.box, (n2.block _ (Array.getElem?_eq_some_iff.1 h'.res).1 (fun e => by cases e; omega)).trans h'.res, n1, hy.far n2 (fun g e => by cases e; exact h'.num.typed) (by decide), hlo, h'.below.trans (below_row n2 (by omega) h'.below.size)⟩, n2⟩
theorem RchSt.far {w W W1 : World} {bs bt : Nat} {bx : Array Value} {x : NV} {s : Int} {t0 : TypeId} (h : RchSt w W bs bx x s) (hg : W.grownBy W1 (some bt)) (ht : Typed W bt t0) (h0 : t0 ≠ 136) (hne : bt ≠ bs) (hlo : w.heap.size + 1 + 1 ≤ bt) : RchSt w W1 bs bx x s :=
 ⟨(hg.block _ (Array.getElem?_eq_some_iff.1 h.box).1 (fun e => by cases e; omega)).trans h.box, (hg.block _ (Array.getElem?_eq_some_iff.1 h.res).1 (fun e => by cases e; omega)).trans h.res, (hg.block _ h.num.lt (fun e => hne (Option.some.inj e).symm)).trans h.num, h.is.far hg (fun g e => by cases e; exact ht) h0, h.low, h.below.trans (below_row hg (by omega) h.below.size)⟩
theorem NV.zero_r (w : World) : NumR (-2148) 1942 w ⟨false, none, 0, 0, 0⟩ 0 :=
 ⟨NumIs.def'.2 ⟨0, Or.inl ⟨rfl, rfl⟩, fun _ => rfl, by decide, by decide, W400_pos, by rw [Nat.zero_mul]; rfl⟩, by decide, by decide⟩
end Go.Proofs.YtpfbgenefjhcjaaGreatDoor
namespace Go.Proofs.YtpfbgenefjhcjaaGreatDoor
set_option linter.unusedVariables false
set_option linter.unusedSimpArgs false
open Go Go.RowKit
set_option maxRecDepth 100000
end Go.Proofs.YtpfbgenefjhcjaaGreatDoor
