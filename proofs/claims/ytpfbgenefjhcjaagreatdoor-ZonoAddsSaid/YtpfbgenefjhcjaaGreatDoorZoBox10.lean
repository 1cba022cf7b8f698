/- ambitref10.Box. -/
import Derived.Test.YtpfbgenefjhcjaaGreatDoorZoLateT
import Derived.Test.YtpfbgenefjhcjaaGreatDoorZoU
import Derived.Test.YtpfbgenefjhcjaaGreatDoorZoBoxD
import Derived.Test.YtpfbgenefjhcjaaGreatDoorPZoRct
namespace Go.Proofs.YtpfbgenefjhcjaaGreatDoor
set_option linter.unusedVariables false
set_option linter.unusedSimpArgs false
open Go Go.RowKit
attribute [local go_sem] Oper.semAt_some
set_option maxRecDepth 100000
def TellsBU (w : World) (y : ZD) (e : Ending) (w' : World) : Prop := ∃ v, e = .returned v ∧ UIs w' v y ∧ Below w.heap.size w w'
/-- What Box has laid, under way: its R grows. -/
structure BU (W0 : World) (gb : Nat) (n : Int) (vc : Value) (cs : List Nat) (W : World) (vr : Value) (r : List Nat) : Prop where
 bel : Below W0.heap.size W0 W
 out : UB W gb (.int .i64 n) vc (.slice none 0 0) (.slice none 0 0) vr (.bool false)
 c : OwnG (fun x => [cU x]) 46 1 W W0.heap.size vc cs
 r : OwnG (fun x => [cU x]) 46 1 W W0.heap.size vr r
 apart : ∀ g, vc.ownBlock = some g → vr.ownBlock ≠ some g
 lo : W0.heap.size ≤ gb
section
variable {W0 : World} {gb : Nat} {n : Int} {vc vr vr' : Value} {cs : List Nat} {W W1 W2 : World} {r r' : List Nat} {u : Nat}
theorem BU.b (h : BU W0 gb n vc cs W vr r) (hb : Below W.heap.size W W1) : BU W0 gb n vc cs W1 vr r :=
 ⟨h.bel.trans (hb.mono h.bel.size), h.out.below hb, h.c.below hb, h.r.below hb, h.apart, h.lo⟩
theorem BU.size (h : BU W0 gb n vc cs W vr r) : W0.heap.size ≤ W.heap.size := h.bel.size
theorem BU.slices (h : BU W0 gb n vc cs W vr r) : ∃ Ac cc Ar cr, vc = .slice Ac cs.length cc ∧ vr = .slice Ar r.length cr := by
 obtain ⟨Ac, cc, h3, _⟩ := h.c.lat
 obtain ⟨Ar, cr, h4, _⟩ := h.r.lat
 exact ⟨Ac, cc, Ar, cr, h3, h4⟩
end
end Go.Proofs.YtpfbgenefjhcjaaGreatDoor
