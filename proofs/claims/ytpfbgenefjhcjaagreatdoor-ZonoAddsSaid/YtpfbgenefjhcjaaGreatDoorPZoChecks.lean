/-
 law10.ZonoChecks.
-/
import Derived.Test.YtpfbgenefjhcjaaGreatDoorPZoStart
import Derived.Test.YtpfbgenefjhcjaaGreatDoorPZoChk10
import Derived.Test.YtpfbgenefjhcjaaGreatDoorPZoFrame
namespace Go.Proofs.YtpfbgenefjhcjaaGreatDoor
set_option linter.unusedVariables false
set_option linter.unusedSimpArgs false
open Go Go.RowKit
set_option maxRecDepth 100000
theorem LaidAt.below {w w1 : World} {base : Nat} {v : Value} {z : ZD} (h : LaidAt w base v z) (hb : Below w.heap.size w w1) : LaidAt w1 base v z := by
 obtain ⟨g1, c1, gI, kI, gG, kG, g4, c4, gm, vals, rfl, hvc, hvr, ho, hG, hvl, hrows, hgm, hcm⟩ := h
 exact ⟨g1, c1, gI, kI, gG, kG, g4, c4, gm, vals, rfl, hvc.below hb, hvr.below hb, ho.below hb, hG.below hb, hvl, fun j us hu => by obtain ⟨u, h1, h2⟩ := hrows j us hu; exact ⟨u, h1, h2.below hb⟩, Nat.lt_of_lt_of_le hgm hb.size, (hb.cell (p := ⟨gm, 0, none⟩) hgm).trans hcm⟩
theorem LaidAt.form {w : World} {base : Nat} {v : Value} {z : ZD} (h : LaidAt w base v z) : ∃ A B C D kA kB kC kD, v = .agg #[.int .i64 z.n, .slice A z.c.length kA, .slice B z.ids.length kB, .slice C z.g.length kC, .slice D z.r.length kD, .bool z.bad] := by
 obtain ⟨g1, c1, gI, kI, gG, kG, g4, c4, gm, vals, rfl, _⟩ := h
 exact ⟨_, _, _, _, _, _, _, _, rfl⟩
theorem GNil.below {w w1 : World} {C : Option Addr} {gs : List (List Nat)} (h : GNil w C gs) (hr : GR w C gs) (hb : Below w.heap.size w w1) : GNil w1 C gs := fun k g hg b o B n cap hC hB hn => by
 obtain ⟨b', o', e, hl, _⟩ := hr k g hg
 rw [hC] at e
 injection e with e
 injection e with e1 e2 _
 subst e1
 exact h k g hg b o B n cap hC ((hb.cell (p := ⟨b, o + k, none⟩) hl).symm.trans hB) hn
/-- The two of them, boxed: the document's and the one that is laid out with room. -/
structure Pair (W : World) (b3 b4 : Nat) (z : ZD) (v3 v4 : Value) (base : Nat) : Prop where
 ref : UIs W v3 z
 laid : LaidAt W base v4 z
theorem Pair.below {W W1 : World} {b3 b4 base : Nat} {z : ZD} {v3 v4 : Value} (h : Pair W b3 b4 z v3 v4 base) (hb : Below W.heap.size W W1) : Pair W1 b3 b4 z v3 v4 base := ⟨h.ref.below hb, h.laid.below hb⟩
end Go.Proofs.YtpfbgenefjhcjaaGreatDoor
