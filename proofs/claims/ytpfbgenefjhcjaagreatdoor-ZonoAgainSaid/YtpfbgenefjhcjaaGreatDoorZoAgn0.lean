/- A zonotope of the caller's own whose lists are written in place. -/
import Derived.Test.YtpfbgenefjhcjaaGreatDoorZoListF
import Derived.Test.YtpfbgenefjhcjaaGreatDoorPZoStart
namespace Go.Proofs.YtpfbgenefjhcjaaGreatDoor
set_option linter.unusedVariables false
set_option linter.unusedSimpArgs false
open Go Go.RowKit
set_option maxRecDepth 100000
theorem GNil.below {w w1 : World} {C : Option Addr} {gs : List (List Nat)} (h : GNil w C gs) (hr : GR w C gs) (hb : Below w.heap.size w w1) : GNil w1 C gs := fun k g hg b o B n cap hC hB hn => by
 obtain ⟨b', o', e, hl, _⟩ := hr k g hg
 rw [hC] at e
 injection e with e
 injection e with e1 e2 _
 subst e1
 exact h k g hg b o B n cap hC ((hb.cell (p := ⟨b, o + k, none⟩) hl).symm.trans hB) hn
/-- A list of floats in a block of floats, at lo or above. -/
def FWr (lo : Nat) (w : World) (v : Value) (us : List Nat) : Prop := ∃ (g cap : Nat) (cs : Array Value), v = .slice (some ⟨g, 0, none⟩) us.length cap ∧ us.length ≤ cap ∧ cap ≤ maxLen ∧ lo ≤ g ∧ w.heap[g]? = some (.cells cs 43 (0, 0)) ∧ ∀ (j : Nat) (u : Nat), us[j]? = some u → cs[j]? = some (cF u)
/-- What one cell that is written makes of such a list. -/
def updF (g o u : Nat) (v : Value) (us : List Nat) : List Nat := match v with
 | .slice (some ⟨b, _, _⟩) _ _ => if b = g then us.set o u else us
 | _ => us
theorem updF_length (g o u : Nat) (v : Value) (us : List Nat) : (updF g o u v us).length = us.length := by
 unfold updF
 split
 ·split
  ·rw [List.length_set]
  ·rfl
 ·rfl
theorem updF_small {g o u : Nat} {v : Value} {us : List Nat} (h : Small us) (hu : u < B64) : Small (updF g o u v us) := by
 unfold updF
 split
 ·split
  ·intro x hx
   rcases List.mem_or_eq_of_mem_set hx with h1 | h1
   ·exact h x h1
   ·rw [h1]; exact hu
  ·exact h
 ·exact h
section
variable {lo : Nat} {w w1 : World} {v : Value} {us : List Nat}
theorem FWr.below (h : FWr lo w v us) (hb : Below w.heap.size w w1) : FWr lo w1 v us := by
 obtain ⟨g, cap, cs, h1, h2, h3, h4, h5, h6⟩ := h
 exact ⟨g, cap, cs, h1, h2, h3, h4, (hb.block g (Array.getElem?_eq_some_iff.1 h5).1).trans h5, h6⟩
theorem FWr.lat (h : FWr lo w v us) : ∃ A cap, v = .slice A us.length cap ∧ LAt cF w A cap us := by
 obtain ⟨g, cap, cs, h1, h2, h3, h4, h5, h6⟩ := h
 refine ⟨_, cap, h1, ⟨fun j x hx => ⟨g, 0, rfl, (Array.getElem?_eq_some_iff.1 h5).1, ?_⟩, fun e => (by cases e), h2, h3⟩⟩
 rw [cell_of_row _ _ _ _ _ _ h5, Nat.zero_add]
 exact h6 j x hx
theorem FWr.set {g o u : Nat} {cs0 : Array Value} (h : FWr lo w v us) (hg : w.heap[g]? = some (.cells cs0 43 (0, 0))) : FWr lo (w.setCell ⟨g, o, none⟩ (.float .f64 u)) v (updF g o u v us) := by
 obtain ⟨b, cap, cs, rfl, h2, h3, h4, h5, h6⟩ := h
 unfold FWr
 rw [updF_length]
 by_cases e : b = g
 ·subst e
  rw [h5] at hg
  cases hg
  refine ⟨b, cap, _, rfl, h2, h3, h4, heap_setCell_same w b o _ _ _ h5, fun j x hx => ?_⟩
  have e1 : updF b o u (.slice (some ⟨b, 0, none⟩) us.length cap) us = us.set o u := if_pos rfl
  rw [e1, List.getElem?_set] at hx
  rw [Array.getElem?_setIfInBounds]
  split at hx
  ·next e =>
   subst e
   split at hx
   ·next hl =>
    cases hx
    obtain ⟨y, hy⟩ := get_some us o hl
    rw [if_pos rfl, if_pos (Array.getElem?_eq_some_iff.1 (h6 o y hy)).1]
    rfl
   ·cases hx
  ·next e =>
   rw [if_neg e]
   exact h6 j x hx
 ·have e1 : updF g o u (.slice (some ⟨b, 0, none⟩) us.length cap) us = us := if_neg e
  rw [e1]
  exact ⟨b, cap, cs, rfl, h2, h3, h4, ((grown_set (grown_refl w (some g)) o _).block b (Array.getElem?_eq_some_iff.1 h5).1 (fun h => e (Option.some.inj h))).trans h5, h6⟩
theorem FWr.at {j : Nat} (h : FWr lo w v us) (hj : j < us.length) : ∃ g cap y cs, v = .slice (some ⟨g, 0, none⟩) us.length cap ∧ lo ≤ g ∧ w.heap[g]? = some (.cells cs 43 (0, 0)) ∧ w.cell? ⟨g, j, none⟩ = some (.float .f64 y) ∧ w.frozen? ⟨g, j, none⟩ = false := by
 obtain ⟨g, cap, cs, h1, h2, h3, h4, h5, h6⟩ := h
 obtain ⟨y, hy⟩ := get_some us j hj
 refine ⟨g, cap, y, cs, h1, h4, h5, ?_, frozen_of_row w g _ _ _ h5⟩
 rw [cell_of_row _ _ _ _ _ _ h5]
 exact h6 j y hy
end
theorem WideAt.fwr {w : World} {base : Nat} {v : Value} {us : List Nat} (h : WideAt w base v us) : FWr base w v us := by
 obtain ⟨g, cap, e, h1, h2, h3, h4⟩ := h
 rcases h4.2 with ⟨e5, _⟩ | ⟨g', cap', cs, e5, h6, h7, h8, h9, h10, h11⟩
 ·cases e5
 ·injection e5 with a1 _ a3
  injection a1 with a1
  injection a1 with a1
  subst a1 a3
  refine ⟨g, cap, cs, e, by omega, h3, h1, h7, fun j u hu => ?_⟩
  have hj := (List.getElem?_eq_some_iff.1 hu).1
  have h12 : (cs.toList.take ((us ++ marks).length * 1))[j]? = some (cF u) := by
   rw [h11, flat_one, List.getElem?_map, List.getElem?_append_left hj, hu]
   rfl
  rw [List.getElem?_take_of_lt (by rw [List.length_append]; omega)] at h12
  rw [← Array.getElem?_toList]
  exact h12
/-- Such a zonotope in its box: its lists of floats may be written. -/
structure XIn (lo : Nat) (W : World) (b : Nat) (z : ZD) (vc vr : Value) (gI kI gG kG : Nat) (vals : List Value) : Prop where
 box : ZB W b (.int .i64 z.n) vc (.slice (some ⟨gI, 0, none⟩) z.ids.length kI) (.slice (some ⟨gG, 0, none⟩) z.g.length kG) vr (.bool z.bad)
 c : FWr lo W vc z.c
 r : FWr lo W vr z.r
 ids : ∃ cs, W.heap[gI]? = some (.cells cs 3 (0, 0)) ∧ ∀ (j : Nat) (i : Int), z.ids[j]? = some i → cs[j]? = some (cI i)
 ki : z.ids.length ≤ kI ∧ kI ≤ maxLen
 g : ∃ cs, W.heap[gG]? = some (.cells cs 22 (0, 0)) ∧ ∀ (j : Nat) (v : Value), vals[j]? = some v → cs[j]? = some v
 kg : z.g.length ≤ kG ∧ kG ≤ maxLen
 len : vals.length = z.g.length
 cols : ∀ (k : Nat) (us : List Nat), z.g[k]? = some us → ∃ v, vals[k]? = some v ∧ FWr lo W v us
 ok : ZOk z
def updZ (g o u : Nat) (vc vr : Value) (vals : List Value) (z : ZD) : ZD := ⟨z.n, updF g o u vc z.c, z.ids, List.zipWith (updF g o u) vals z.g, updF g o u vr z.r, z.bad⟩
section
variable {lo : Nat} {W W1 : World} {b : Nat} {z : ZD} {vc vr : Value} {gI kI gG kG : Nat} {vals : List Value}
theorem XIn.b' (h : XIn lo W b z vc vr gI kI gG kG vals) (hb : Below W.heap.size W W1) : XIn lo W1 b z vc vr gI kI gG kG vals := by
 obtain ⟨cs, i1, i2⟩ := h.ids
 obtain ⟨ds, g1, g2⟩ := h.g
 exact ⟨h.box.below hb, h.c.below hb, h.r.below hb, ⟨cs, (hb.block _ (Array.getElem?_eq_some_iff.1 i1).1).trans i1, i2⟩, h.ki, ⟨ds, (hb.block _ (Array.getElem?_eq_some_iff.1 g1).1).trans g1, g2⟩, h.kg, h.len, fun k us hu => by obtain ⟨v, e1, e2⟩ := h.cols k us hu; exact ⟨v, e1, e2.below hb⟩, h.ok⟩
theorem XIn.is (h : XIn lo W b z vc vr gI kI gG kG vals) : ZIs W (.agg #[.int .i64 z.n, vc, .slice (some ⟨gI, 0, none⟩) z.ids.length kI, .slice (some ⟨gG, 0, none⟩) z.g.length kG, vr, .bool z.bad]) z := by
 obtain ⟨A, cA, rfl, lA⟩ := h.c.lat
 obtain ⟨D, cD, rfl, lD⟩ := h.r.lat
 obtain ⟨cs, i1, i2⟩ := h.ids
 obtain ⟨ds, g1, g2⟩ := h.g
 refine ⟨A, _, _, D, cA, kI, kG, cD, rfl, lA.row, fun j x hx => ⟨gI, 0, rfl, (Array.getElem?_eq_some_iff.1 i1).1, ?_⟩, fun k us hu => ?_, lD.row, lA.caps, ⟨h.ki.1, h.ki.2, fun e => (by cases e)⟩, ⟨h.kg.1, h.kg.2, fun e => (by cases e)⟩, lD.caps⟩
 ·rw [cell_of_row _ _ _ _ _ _ i1, Nat.zero_add]
  exact i2 j x hx
 ·obtain ⟨v, e1, e2⟩ := h.cols k us hu
  obtain ⟨E, cE, rfl, lE⟩ := e2.lat
  refine ⟨gG, 0, rfl, (Array.getElem?_eq_some_iff.1 g1).1, E, cE, ?_, lE.len, lE.most, lE.row⟩
  rw [cell_of_row _ _ _ _ _ _ g1, Nat.zero_add]
  exact g2 k _ e1
theorem XIn.forms (h : XIn lo W b z vc vr gI kI gG kG vals) : ∃ A cA D cD, vc = .slice A z.c.length cA ∧ vr = .slice D z.r.length cD := by
 obtain ⟨A, cA, e1, _⟩ := h.c.lat
 obtain ⟨D, cD, e2, _⟩ := h.r.lat
 exact ⟨A, cA, D, cD, e1, e2⟩
theorem XIn.start {base : Nat} {v : Value} (h : LaidAt W base v z) (hk : ZOk z) (hB : lo ≤ base) : ∃ g1 c1 g4 c4 gI kI gG kG vals, v = .agg #[.int .i64 z.n, .slice (some ⟨g1, 0, none⟩) z.c.length c1, .slice (some ⟨gI, 0, none⟩) z.ids.length kI, .slice (some ⟨gG, 0, none⟩) z.g.length kG, .slice (some ⟨g4, 0, none⟩) z.r.length c4, .bool z.bad] ∧ ∀ (b : Nat) (W1 : World), Below W.heap.size W W1 → ZB W1 b (.int .i64 z.n) (.slice (some ⟨g1, 0, none⟩) z.c.length c1) (.slice (some ⟨gI, 0, none⟩) z.ids.length kI) (.slice (some ⟨gG, 0, none⟩) z.g.length kG) (.slice (some ⟨g4, 0, none⟩) z.r.length c4) (.bool z.bad) → XIn lo W1 b z (.slice (some ⟨g1, 0, none⟩) z.c.length c1) (.slice (some ⟨g4, 0, none⟩) z.r.length c4) gI kI gG kG vals := by
 obtain ⟨g1, c1, gI, kI, gG, kG, g4, c4, gm, vals, rfl, hvc, hvr, ho, hG, hvl, hrows, hgm, hcm⟩ := h
 have low : ∀ {v : Value} {us : List Nat}, FWr base W v us → FWr lo W v us := fun h => by
  obtain ⟨g, cap, cs, h1, h2, h3, h4, h5⟩ := h
  exact ⟨g, cap, cs, h1, h2, h3, Nat.le_trans hB h4, h5⟩
 refine ⟨g1, c1, g4, c4, gI, kI, gG, kG, vals, rfl, fun b W1 hb hbox => XIn.b' (W := W1) ⟨hbox, (low hvc.fwr).below hb, (low hvr.fwr).below hb, ?_, ?_, ?_, ?_, hvl, fun k us hu => ?_, hk⟩ (Below.refl _ _)⟩
 ·rcases ho.2 with ⟨e5, _⟩ | ⟨g', cap', cs, e5, h6, h7, h8, h9, h10, h11⟩
  ·cases e5
  ·injection e5 with a1 _ a3
   injection a1 with a1
   injection a1 with a1
   subst a1 a3
   refine ⟨cs, (hb.block _ (Array.getElem?_eq_some_iff.1 h7).1).trans h7, fun j i hi => ?_⟩
   have hj := (List.getElem?_eq_some_iff.1 hi).1
   have h12 : (cs.toList.take (([] ++ z.ids ++ [901, 902]).length * 1))[j]? = some (cI i) := by
    rw [h11, flat_one, List.getElem?_map, List.nil_append, List.getElem?_append_left hj, hi]
    rfl
   rw [List.getElem?_take_of_lt (by rw [List.nil_append, List.length_append]; omega)] at h12
   rw [← Array.getElem?_toList]
   exact h12
 ·have := ownG_cell ho z.ids.length 901 (by rw [List.nil_append, List.getElem?_append_right (Nat.le_refl _), Nat.sub_self]; rfl)
  exact ⟨by omega, this.2.2.2.2⟩
 ·rcases hG.2 with ⟨e5, _⟩ | ⟨g', cap', cs, e5, h6, h7, h8, h9, h10, h11⟩
  ·cases e5
  ·injection e5 with a1 _ a3
   injection a1 with a1
   injection a1 with a1
   subst a1 a3
   refine ⟨cs, (hb.block _ (Array.getElem?_eq_some_iff.1 h7).1).trans h7, fun j v hv => ?_⟩
   have hj := (List.getElem?_eq_some_iff.1 hv).1
   have h12 : (cs.toList.take ((vals ++ [Value.slice (some ⟨gm, 0, none⟩) 1 1]).length * 1))[j]? = some v := by
    rw [h11, flat_one, List.getElem?_map, List.getElem?_append_left hj, hv]
    rfl
   rw [List.getElem?_take_of_lt (by rw [List.length_append]; omega)] at h12
   rw [← Array.getElem?_toList]
   exact h12
 ·have := ownG_cell hG vals.length (.slice (some ⟨gm, 0, none⟩) 1 1) (by rw [List.getElem?_append_right (Nat.le_refl _), Nat.sub_self]; rfl)
  exact ⟨by omega, this.2.2.2.2⟩
 ·obtain ⟨u, hu', hw⟩ := hrows k us hu
  exact ⟨u, hu', (low hw.fwr).below hb⟩
theorem updZ_ok {g o u : Nat} (hk : ZOk z) (hu : u < B64) (hl : vals.length = z.g.length) : ZOk (updZ g o u vc vr vals z) := by
 refine ⟨updF_small hk.c hu, updF_small hk.r hu, fun x hx => ?_, ?_, ?_, hk.li, ?_, hk.n1, hk.n2, hk.ids⟩
 ·obtain ⟨j, hj, rfl⟩ := List.mem_iff_getElem.1 hx
  have hj' : j < vals.length ∧ j < z.g.length := by
   have : (List.zipWith (updF g o u) vals z.g).length = min vals.length z.g.length := List.length_zipWith
   show _ ∧ _
   change j < (List.zipWith (updF g o u) vals z.g).length at hj
   omega
  have e : (updZ g o u vc vr vals z).g[j] = updF g o u vals[j] z.g[j] := List.getElem_zipWith
  rw [e, updF_length]
  have h1 := hk.g z.g[j] (List.getElem_mem _)
  exact ⟨updF_small h1.1 hu, h1.2⟩
 ·show (updF g o u vc z.c).length ≤ MAXF
  rw [updF_length]
  exact hk.lc
 ·show (updF g o u vr z.r).length ≤ MAXF
  rw [updF_length]
  exact hk.lr
 ·show (List.zipWith (updF g o u) vals z.g).length ≤ MAXG
  rw [List.length_zipWith]
  have := hk.lg
  omega
theorem XIn.set {g o u : Nat} {cs0 : Array Value} (h : XIn lo W b z vc vr gI kI gG kG vals) (hg : W.heap[g]? = some (.cells cs0 43 (0, 0))) (hu : u < B64) : XIn lo (W.setCell ⟨g, o, none⟩ (.float .f64 u)) b (updZ g o u vc vr vals z) vc vr gI kI gG kG vals := by
 have hgr := grown_set (grown_refl W (some g)) o (.float .f64 u)
 have ht : ∀ k, some g = some k → Typed W k 43 := fun k e => by cases e; exact ⟨_, hg⟩
 obtain ⟨cs, i1, i2⟩ := h.ids
 obtain ⟨ds, g1, g2⟩ := h.g
 have e1 : (updZ g o u vc vr vals z).g.length = z.g.length := by
  show (List.zipWith (updF g o u) vals z.g).length = _
  rw [List.length_zipWith, h.len, Nat.min_self]
 refine ⟨?_, h.c.set hg, h.r.set hg, ⟨cs, block_far i1 hgr ht (by decide), i2⟩, h.ki, ⟨ds, block_far g1 hgr ht (by decide), g2⟩, by rw [e1]; exact h.kg, by rw [e1]; exact h.len, fun k us hus => ?_, updZ_ok h.ok hu h.len⟩
 ·rw [e1]
  exact block_far h.box hgr ht (by decide)
 ·change (List.zipWith (updF g o u) vals z.g)[k]? = some us at hus
  rw [List.getElem?_zipWith] at hus
  cases hv : vals[k]? with
  | none => rw [hv] at hus; cases hus
  | some v =>
   cases hz : z.g[k]? with
   | none => rw [hv, hz] at hus; cases hus
   | some us' =>
    rw [hv, hz] at hus
    cases hus
    obtain ⟨v', h1, h2⟩ := h.cols k us' hz
    rw [hv] at h1
    cases h1
    exact ⟨v, rfl, h2.set hg⟩
/-- It in a row of its own: its lists of floats. -/
theorem XIn.lists {W2 : World} {g1 n1 c1 g4 n4 c4 gb : Nat} {w0 w5 w2 : Value} (h : XIn lo W b z (.slice (some ⟨g1, 0, none⟩) n1 c1) (.slice (some ⟨g4, 0, none⟩) n4 c4) gI kI gG kG vals) (hb : Below W.heap.size W W2) (hr : W2.heap[gb]? = some (.cells #[w0, .slice (some ⟨g1, 0, none⟩) n1 c1, w2, .slice (some ⟨gG, 0, none⟩) z.g.length kG, .slice (some ⟨g4, 0, none⟩) n4 c4, w5] 26 (0, 0))) :
  ZLRow W2 (some ⟨gb, 0, none⟩) [⟨some ⟨g1, 0, none⟩, n1, c1, some ⟨g4, 0, none⟩, n4, c4, some ⟨gG, 0, none⟩, kG, vals⟩] := by
 intro j x hx
 match j, hx with
 | 0, hx =>
  cases hx
  obtain ⟨q0, q1, q2, q3, q4, q5⟩ := cells6 hr
  obtain ⟨ds, g1, g2⟩ := h.g
  have g3 := (hb.block _ (Array.getElem?_eq_some_iff.1 g1).1).trans g1
  refine ⟨gb, 0, rfl, (Array.getElem?_eq_some_iff.1 hr).1, ⟨q1, by rw [h.len]; exact q3, q4, ⟨fun j x hx => ⟨gG, 0, rfl, (Array.getElem?_eq_some_iff.1 g3).1, ?_⟩, fun e => (by cases e), by rw [h.len]; exact h.kg.1, h.kg.2⟩, fun v hv => ?_⟩⟩
  ·rw [cell_of_row _ _ _ _ _ _ g3, Nat.zero_add]
   exact g2 j x hx
  ·obtain ⟨k, hk, rfl⟩ := List.mem_iff_getElem.1 hv
   have hk' := hk
   change k < vals.length at hk'
   rw [h.len] at hk'
   obtain ⟨us, hu⟩ := get_some z.g k hk'
   obtain ⟨v', e1, e2⟩ := h.cols k us hu
   have e3 : vals[k]? = some vals[k] := List.getElem?_eq_getElem hk
   rw [e3] at e1
   cases e1
   obtain ⟨A, c, e4, _⟩ := e2.lat
   change (vals[k]).oneCell' = true
   rw [e4]
   rfl
 | (j + 1), hx => simp at hx
/-- Each of its lists of floats. -/
theorem XIn.all (h : XIn lo W b z vc vr gI kI gG kG vals) (k : Nat) (v : Value) (hv : (vc :: vr :: vals)[k]? = some v) : ∃ us, FWr lo W v us ∧ us.length ≤ MAXF := by
 match k, hv with
 | 0, hv => cases hv; exact ⟨_, h.c, h.ok.lc⟩
 | 1, hv => cases hv; exact ⟨_, h.r, h.ok.lr⟩
 | (k + 2), hv =>
  have hv' : vals[k]? = some v := hv
  have hk := (List.getElem?_eq_some_iff.1 hv').1
  rw [h.len] at hk
  obtain ⟨us, hu⟩ := get_some z.g k hk
  obtain ⟨v', h1, h2⟩ := h.cols k us hu
  rw [hv'] at h1
  cases h1
  exact ⟨us, h2, (h.ok.g us (List.mem_of_getElem? hu)).2⟩
end
theorem tdiv7 (a : Int) (h : -9223372036854775808 ≤ a ∧ a ≤ 9223372036854775807) : -9223372036854775808 ≤ a.tdiv 7 ∧ a.tdiv 7 ≤ 9223372036854775807 := by
 rcases Int.le_total 0 a with h0 | h0
 ·rw [Int.tdiv_eq_ediv_of_nonneg h0]
  omega
 ·have e : a.tdiv 7 = -((-a).tdiv 7) := by rw [Int.neg_tdiv, Int.neg_neg]
  rw [e, Int.tdiv_eq_ediv_of_nonneg (by omega)]
  omega
theorem wrap7 (a : Int) (h : -9223372036854775808 ≤ a ∧ a ≤ 9223372036854775807) : IntKind.i64.wrap (a.tdiv 7) = a.tdiv 7 := by
 have := tdiv7 a h
 rw [IntKind.wrap_i64]
 omega
/-- An index as the law makes it. -/
theorem idx_tmod (a : Int) (n : Nat) (h : 0 < n) : ∃ t : Int, a.tmod (n : Int) = t ∧ -(n : Int) < t ∧ t < (n : Int) ∧ ∃ q : Nat, (t + (n : Int)).tmod (n : Int) = (q : Int) ∧ q < n := by
 have h1 := Int.tmod_lt_of_pos a (show (0 : Int) < (n : Int) by omega)
 have h2 : -(n : Int) < a.tmod (n : Int) := by
  rcases Int.le_total 0 a with h | h
  ·have := Int.tmod_nonneg (n : Int) h
   omega
  ·have h3 := Int.tmod_lt_of_pos (-a) (show (0 : Int) < (n : Int) by omega)
   rw [Int.neg_tmod] at h3
   omega
 refine ⟨_, rfl, h2, h1, ?_⟩
 have h4 := Int.tmod_nonneg (n : Int) (show 0 ≤ a.tmod (n : Int) + (n : Int) by omega)
 have h5 := Int.tmod_lt_of_pos (a.tmod (n : Int) + (n : Int)) (show (0 : Int) < (n : Int) by omega)
 exact ⟨((a.tmod (n : Int) + (n : Int)).tmod (n : Int)).toNat, by omega, by omega⟩
end Go.Proofs.YtpfbgenefjhcjaaGreatDoor
