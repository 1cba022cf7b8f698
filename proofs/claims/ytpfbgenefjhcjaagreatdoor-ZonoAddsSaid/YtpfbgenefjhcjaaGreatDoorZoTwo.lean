/- A law's beginning: the document's zonotope, and the one that is laid out with room. -/
import Derived.Test.YtpfbgenefjhcjaaGreatDoorPZoChecks
namespace Go.Proofs.YtpfbgenefjhcjaaGreatDoor
set_option linter.unusedVariables false
set_option linter.unusedSimpArgs false
open Go Go.RowKit
set_option maxRecDepth 100000
/-- The document's zonotope and the one that is laid out with room, in their boxes: what a law's beginning leaves. -/
structure InTwo (w W : World) (z : ZD) (b3 b4 base : Nat) (A1 B1 C1 D1 A2 B2 C2 D2 : Option Addr) (kA1 kB1 kC1 kD1 kA2 kB2 kC2 kD2 : Nat) : Prop where
 ref : W.heap[b3]? = some (.cells #[.int .i64 z.n, .slice A1 z.c.length kA1, .slice B1 z.ids.length kB1, .slice C1 z.g.length kC1, .slice D1 z.r.length kD1, .bool z.bad] 30 (0, 0))
 laid : W.heap[b4]? = some (.cells #[.int .i64 z.n, .slice A2 z.c.length kA2, .slice B2 z.ids.length kB2, .slice C2 z.g.length kC2, .slice D2 z.r.length kD2, .bool z.bad] 26 (0, 0))
 refC : ZC cU W z A1 B1 C1 D1 kA1 kB1 kC1 kD1
 laidAt : LaidAt W base (.agg #[.int .i64 z.n, .slice A2 z.c.length kA2, .slice B2 z.ids.length kB2, .slice C2 z.g.length kC2, .slice D2 z.r.length kD2, .bool z.bad]) z
 below : Below w.heap.size w W
theorem InTwo.b {w W W1 : World} {z : ZD} {b3 b4 base : Nat} {A1 B1 C1 D1 A2 B2 C2 D2 : Option Addr} {kA1 kB1 kC1 kD1 kA2 kB2 kC2 kD2 : Nat} (h : InTwo w W z b3 b4 base A1 B1 C1 D1 A2 B2 C2 D2 kA1 kB1 kC1 kD1 kA2 kB2 kC2 kD2) (hb : Below W.heap.size W W1) : InTwo w W1 z b3 b4 base A1 B1 C1 D1 A2 B2 C2 D2 kA1 kB1 kC1 kD1 kA2 kB2 kC2 kD2 :=
 ⟨(hb.block _ (Array.getElem?_eq_some_iff.1 h.ref).1).trans h.ref, (hb.block _ (Array.getElem?_eq_some_iff.1 h.laid).1).trans h.laid, h.refC.below hb, h.laidAt.below hb, h.below.trans (hb.mono h.below.size)⟩
theorem InTwo.u {w W : World} {z : ZD} {b3 b4 base : Nat} {A1 B1 C1 D1 A2 B2 C2 D2 : Option Addr} {kA1 kB1 kC1 kD1 kA2 kB2 kC2 kD2 : Nat} (h : InTwo w W z b3 b4 base A1 B1 C1 D1 A2 B2 C2 D2 kA1 kB1 kC1 kD1 kA2 kB2 kC2 kD2) : UIs W (.agg #[.int .i64 z.n, .slice A1 z.c.length kA1, .slice B1 z.ids.length kB1, .slice C1 z.g.length kC1, .slice D1 z.r.length kD1, .bool z.bad]) z := ⟨A1, B1, C1, D1, kA1, kB1, kC1, kD1, rfl, h.refC⟩
theorem InTwo.z {w W : World} {z : ZD} {b3 b4 base : Nat} {A1 B1 C1 D1 A2 B2 C2 D2 : Option Addr} {kA1 kB1 kC1 kD1 kA2 kB2 kC2 kD2 : Nat} (h : InTwo w W z b3 b4 base A1 B1 C1 D1 A2 B2 C2 D2 kA1 kB1 kC1 kD1 kA2 kB2 kC2 kD2) (hk : ZOk z) : ZIs W (.agg #[.int .i64 z.n, .slice A2 z.c.length kA2, .slice B2 z.ids.length kB2, .slice C2 z.g.length kC2, .slice D2 z.r.length kD2, .bool z.bad]) z := h.laidAt.cells hk
end Go.Proofs.YtpfbgenefjhcjaaGreatDoor
