/- What the document's Plus has under way. -/
import Derived.Test.YtpfbgenefjhcjaaGreatDoorZoLaid10
import Derived.Test.YtpfbgenefjhcjaaGreatDoorZoMerge
namespace Go.Proofs.YtpfbgenefjhcjaaGreatDoor
set_option linter.unusedVariables false
set_option linter.unusedSimpArgs false
open Go Go.RowKit
set_option maxRecDepth 100000
theorem good_rising {z : ZD} (hz : Good z) : z.ids.Pairwise (· < ·) := by
 rw [List.pairwise_iff_getElem]
 intro i j hi hj hij
 exact ids_lt hz j _ (List.getElem?_eq_getElem hj) i _ hij (List.getElem?_eq_getElem hi)
theorem colI_len {z : ZD} (hz : Good z) {n : Nat} (hn : z.n = (n : Int)) (i : Int) : (colI z n i).length = n := by
 unfold colI
 cases hi : idxOf z.ids i with
 | none => exact List.length_replicate
 | some k =>
  obtain ⟨h1, _⟩ := idx_some hi
  have hl := hz.len
  have : z.g[k]? = some (colZ z k) := by unfold colZ; rw [List.getD_eq_getElem?_getD, List.getElem?_eq_getElem (by omega), Option.getD_some]
  have := (hz.colG k _ this).2
  show (colZ z k).length = n
  omega
theorem sumL_succ (p q : List Nat) (k : Nat) : sumL p q (k + 1) = sumL p q k ++ [fz (p.getD k 0) + fz (q.getD k 0)] := by
 unfold sumL
 rw [List.range_succ, List.map_append]
 rfl
theorem NAcc.keepO {lo hi : Int} {base : Nat} {w w1 : World} {v : Value} {ns : List NV} {zs : List Int} {row : Option Nat} (h : NAcc lo hi base w v ns zs) (hg : w.grownBy w1 row) (hap : v.ownBlock = none ∨ v.ownBlock ≠ row) (ht : ∀ g, row = some g → Typed w g 70) : NAcc lo hi base w1 v ns zs :=
 ⟨h.own.kept hg hap, h.len, fun j z hz => by obtain ⟨x, h1, h2⟩ := h.nums j z hz; exact ⟨x, h1, h2.far hg ht (by decide)⟩⟩
/-- Two rows of numbers that grow. -/
structure N2 (W0 W : World) (vc vr : Value) (nc nr : List NV) (zc zr : List Int) : Prop where
 bel : Below W0.heap.size W0 W
 c : NAcc (-2212) 5000 W0.heap.size W vc nc zc
 r : NAcc (-2212) 5000 W0.heap.size W vr nr zr
 apart : ∀ g, vc.ownBlock = some g → vr.ownBlock ≠ some g
section
variable {W0 W W1 W2 : World} {vc vr vc' vr' : Value} {nc nr : List NV} {zc zr : List Int} {x : NV} {z : Int}
theorem N2.size (h : N2 W0 W vc vr nc nr zc zr) : W0.heap.size ≤ W.heap.size := h.bel.size
theorem N2.b (h : N2 W0 W vc vr nc nr zc zr) (hb : Below W.heap.size W W1) : N2 W0 W1 vc vr nc nr zc zr := ⟨h.bel.trans (hb.mono h.bel.size), h.c.below hb, h.r.below hb, h.apart⟩
theorem N2.addC (h : N2 W0 W vc vr nc nr zc zr) (hx : NumR (-2212) 5000 W x z) (ho : OwnG NV.cells 70 3 W2 W0.heap.size vc' (nc ++ [x])) (hg : W.grownBy W2 vc.ownBlock) (hn : vc'.ownBlock = vc.ownBlock ∨ vc'.ownBlock = some W.heap.size) : N2 W0 W2 vc' vr (nc ++ [x]) nr (zc ++ [z]) zr := by
 refine ⟨h.bel.trans (below_ownG h.c.own hg h.size), h.c.add hx ho hg, h.r.keepO hg ?_ h.c.own.typed, fun g hv e => ?_⟩
 ·cases hv : vc.ownBlock with
  | none => cases hr : vr.ownBlock with
   | none => exact Or.inl rfl
   | some k => exact Or.inr (by simp)
  | some k => exact Or.inr (h.apart k hv)
 ·rcases hn with hn | hn
  ·exact h.apart g (hn ▸ hv) e
  ·rw [hn] at hv
   cases hv
   have := (h.r.own.lt _ e).2
   omega
theorem N2.addR (h : N2 W0 W vc vr nc nr zc zr) (hx : NumR (-2212) 5000 W x z) (ho : OwnG NV.cells 70 3 W2 W0.heap.size vr' (nr ++ [x])) (hg : W.grownBy W2 vr.ownBlock) (hn : vr'.ownBlock = vr.ownBlock ∨ vr'.ownBlock = some W.heap.size) : N2 W0 W2 vc vr' nc (nr ++ [x]) zc (zr ++ [z]) := by
 refine ⟨h.bel.trans (below_ownG h.r.own hg h.size), h.c.keepO hg ?_ h.r.own.typed, h.r.add hx ho hg, fun g hv e => ?_⟩
 ·cases hv : vc.ownBlock with
  | none => exact Or.inl rfl
  | some k => exact Or.inr fun e => h.apart k hv e.symm
 ·rcases hn with hn | hn
  ·exact h.apart g hv (hn ▸ e)
  ·rw [hn] at e
   cases e
   have := (h.c.own.lt _ hv).2
   omega
end
theorem map_take_snoc {α β : Type} (f : α → β) (l : List α) (j : Nat) (x : α) (h : l[j]? = some x) : (l.take j).map f ++ [f x] = (l.take (j + 1)).map f := by
 obtain ⟨h1, h2⟩ := List.getElem?_eq_some_iff.1 h
 rw [List.take_add_one, h, List.map_append]
 rfl
theorem plusD_no {a b : ZD} (h : ¬ (goodD a = true ∧ goodD b = true ∧ a.n = b.n)) : plusD a b = lostZ (sameSize a b) := by
 unfold plusD
 rw [if_neg h]
end Go.Proofs.YtpfbgenefjhcjaaGreatDoor
