/- Box as data; what zono.Box has laid, under way. -/
import Derived.Test.YtpfbgenefjhcjaaGreatDoorPZoLif
namespace Go.Proofs.YtpfbgenefjhcjaaGreatDoor
set_option linter.unusedVariables false
set_option linter.unusedSimpArgs false
open Go Go.RowKit
set_option maxRecDepth 100000
section
variable {z : ZD} {k : Nat} {r : List Nat}
end
/-- What Box has laid, under way. -/
structure BSt (b0 gb : Nat) (bx : Array Value) (z : ZD) (vc vr : Value) (W : World) (r : List Nat) : Prop where
 box : W.heap[b0]? = some (.cells bx 26 (0, 0))
 res : W.heap[b0 + 1]? = some (.cells #[.int .i64 0, .slice none 0 0, .slice none 0 0, .slice none 0 0, .slice none 0 0, .bool false] 26 (0, 0))
 out : ZB W gb (.int .i64 z.n) vc (.slice none 0 0) (.slice none 0 0) vr (.bool false)
 c : FO (b0 + 1 + 1) W vc (z.c.map plainU)
 r : FO (b0 + 1 + 1) W vr r
 apart : ∀ g, vc.ownBlock = some g → vr.ownBlock ≠ some g
 lo : b0 + 1 + 1 ≤ gb
section
variable {b0 gb : Nat} {bx : Array Value} {z : ZD} {vc vr vr' : Value} {W W1 W2 : World} {r r' : List Nat}
theorem BSt.below (h : BSt b0 gb bx z vc vr W r) (hb : Below W.heap.size W W1) : BSt b0 gb bx z vc vr W1 r :=
 ⟨(hb.block _ (Array.getElem?_eq_some_iff.1 h.box).1).trans h.box, (hb.block _ (Array.getElem?_eq_some_iff.1 h.res).1).trans h.res, h.out.below hb, h.c.below hb, h.r.below hb, h.apart, h.lo⟩
theorem BSt.size (h : BSt b0 gb bx z vc vr W r) : b0 + 1 + 1 ≤ W.heap.size := Nat.le_trans h.lo (Nat.le_of_lt (Array.getElem?_eq_some_iff.1 h.out).1)
end
end Go.Proofs.YtpfbgenefjhcjaaGreatDoor
