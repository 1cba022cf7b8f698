/-
  NARROWER THAN 'FOR EVERY INPUT', by the rows' own cells (each row's printed sentence says how): AccOrder: calm.
  DERIVED. THE GIVEN ROWS OF THIS SEAT. 3 by the template 'for every input the law returns true; each argument reads behind the call as it read before'; 0 by the template 'total and deterministic' (their statements: YtopilodakphhgaaDoorTotals.lean).
  GIVEN WITH THE SEED: the statements are not yours to turn. If you find one false, say at which input.
  Laid BY PROGRAM, IN A SANDBOX (cutbox-rows.mjs): the forced cells as the released guide's own fill.sh prints them over the translation 47e5783f9c290e63… (all of the seat's roots in one cut). By AI agents, Wed Nov 11 2026. No macro, syntax, notation, axiom, sorry.
-/
import Derived.Test.YtopilodakphhgaaDoorChecked
import GoSem.Claim
import GoSem.ClaimJoined
import GoSem.ClaimMapViews
import Derived.JoinedTies
import Derived.KernelRfl
namespace Go.Proofs.YtopilodakphhgaaDoor
/- THE CELL 'sum', in the pinned program and in every row, IS THE sha256 OF THE DUMP (.gsa) THAT YtopilodakphhgaaDoorProg.lean LOADS. Nothing in Lean hashes anything: it is a label: what it is worth is what the hold of that sum in a sandbox is worth. -/
noncomputable def Tryd.pinned : Pinned := { name := "ytopilodakphhgaadoor", sum := "47e5783f9c290e63cdc6fe4982dac53f9cf5114d147bdf12d80c3c0e3f46f975", checked := Tryd.checked }
namespace Rows
def none {H : Type} : Left H := { results := [], args := [] }

/-- 'ambitlaw3.AccTurned': WHATEVER THE INPUT: true; the input reads as it did. -/
def accTurnedSpec : ChangeSpec := { name := "accTurned", fn := fun _ => fun
  | [d1, d2] => { results := [.lit (.bool true)], args := [d1, d2] }
  | _ => none }
def accTurnedRow : OpenClaim := { program := "ytopilodakphhgaadoor", sum := "47e5783f9c290e63cdc6fe4982dac53f9cf5114d147bdf12d80c3c0e3f46f975", func := "ambit/ambitlaw3.AccTurned", spec := "accTurned", inPlace := ["math.Float64bits", "math/bits.Sub64", "math/bits.Add64", "math/big.subVV", "math/big.rshVU", "math/big.addVV", "math/big.lshVU", "math.Float64frombits"], recurses := true, named := ["math/big.natOne"], apart := false }
def AccTurnedSaid : Prop := accTurnedRow.holds Tryd.pinned (OpenSpec.ofChange accTurnedSpec)

/-- ITS FALSE NEIGHBOUR: 'it returns false'. Refute it at one input. -/
def accTurnedWrong : ChangeSpec := { name := "accTurned", fn := fun _ => fun
  | [d1, d2] => { results := [.lit (.bool false)], args := [d1, d2] }
  | _ => none }
def AccTurnedWrongFalsely : Prop := accTurnedRow.holds Tryd.pinned (OpenSpec.ofChange accTurnedWrong)

/-- 'ambitlaw3.AccDoubles': WHATEVER THE INPUT: true; the input reads as it did. -/
def accDoublesSpec : ChangeSpec := { name := "accDoubles", fn := fun _ => fun
  | [d1, d2] => { results := [.lit (.bool true)], args := [d1, d2] }
  | _ => none }
def accDoublesRow : OpenClaim := { program := "ytopilodakphhgaadoor", sum := "47e5783f9c290e63cdc6fe4982dac53f9cf5114d147bdf12d80c3c0e3f46f975", func := "ambit/ambitlaw3.AccDoubles", spec := "accDoubles", inPlace := ["math.Float64bits", "math/bits.Sub64", "math/bits.Add64", "math/big.subVV", "math/big.rshVU", "math/big.addVV", "math/big.lshVU", "math.Float64frombits"], recurses := true, named := ["math/big.natOne"], apart := false }
def AccDoublesSaid : Prop := accDoublesRow.holds Tryd.pinned (OpenSpec.ofChange accDoublesSpec)

/-- ITS FALSE NEIGHBOUR: 'it returns false'. Refute it at one input. -/
def accDoublesWrong : ChangeSpec := { name := "accDoubles", fn := fun _ => fun
  | [d1, d2] => { results := [.lit (.bool false)], args := [d1, d2] }
  | _ => none }
def AccDoublesWrongFalsely : Prop := accDoublesRow.holds Tryd.pinned (OpenSpec.ofChange accDoublesWrong)

/-- 'ambitlaw3.AccOrder': WHATEVER THE INPUT: true; the input reads as it did. -/
def accOrderSpec : ChangeSpec := { name := "accOrder", fn := fun _ => fun
  | [d1, d2, d3] => { results := [.lit (.bool true)], args := [d1, d2, d3] }
  | _ => none }
def accOrderRow : OpenClaim := { program := "ytopilodakphhgaadoor", sum := "47e5783f9c290e63cdc6fe4982dac53f9cf5114d147bdf12d80c3c0e3f46f975", func := "ambit/ambitlaw3.AccOrder", spec := "accOrder", inPlace := ["math.Float64bits", "math/bits.Sub64", "math/bits.Add64", "math/big.subVV", "math/big.rshVU", "math/big.addVV", "math/big.lshVU", "math.Float64frombits"], recurses := true, named := ["math/big.natOne"], apart := false, calm := true, outside := [.timePasses] }
def AccOrderSaid : Prop := accOrderRow.holds Tryd.pinned (OpenSpec.ofChange accOrderSpec)

/-- ITS FALSE NEIGHBOUR: 'it returns false'. Refute it at one input. -/
def accOrderWrong : ChangeSpec := { name := "accOrder", fn := fun _ => fun
  | [d1, d2, d3] => { results := [.lit (.bool false)], args := [d1, d2, d3] }
  | _ => none }
def AccOrderWrongFalsely : Prop := accOrderRow.holds Tryd.pinned (OpenSpec.ofChange accOrderWrong)

/- THE SECOND FORM. 'bulk': how many values and letters a reading holds, each counted each time it is reached (what is shared counts as often as it is met; a slice's spare places count too). A statement '..UptoSaid' is the law's where the arguments, and the package variables that the reading takes, are together of bulk at most 1048576: NARROWER than '..Said'. Prove '..Said' where nothing that the law and all that it calls make is longer than what came in: it says more and counts as full. Else prove '..UptoSaid'. A law counts once. -/
mutual
def uptoBulk {H : Type} : DataW H → Nat
  | .lit (.string bytes) => bytes.length + 1
  | .lit _ => 1
  | .nil => 1
  | .ptr d => uptoBulk d + 1
  | .slice elems spare => uptoBulkAll elems + uptoBulkAll spare + 1
  | .agg parts => uptoBulkAll parts + 1
  | .iface _ d => uptoBulk d + 1
  | .map entries => uptoBulkEntries entries + 1
  | .held _ => 1
def uptoBulkAll {H : Type} : List (DataW H) → Nat
  | [] => 0
  | d :: r => uptoBulk d + uptoBulkAll r
def uptoBulkEntries {H : Type} : List (Lit × DataW H) → Nat
  | [] => 0
  | x :: r => uptoBulkEntry x + uptoBulkEntries r
def uptoBulkEntry {H : Type} : Lit × DataW H → Nat
  | (.string bytes, d) => bytes.length + uptoBulk d + 1
  | (_, d) => uptoBulk d + 1
 end
def uptoSmall : (H : Type) → List (DataW H) → Bool := fun _ ds => decide (uptoBulkAll ds ≤ 1048576)
def OpenSpec.upto (s : _root_.Go.ChangeSpec) : _root_.Go.OpenSpec := { _root_.Go.OpenSpec.ofChange s with cond := some uptoSmall }

/-- 'ambitlaw3.AccTurned', WHERE WHAT IT READS IS OF BULK AT MOST 1048576: true; the input reads as it did. -/
def accTurnedUptoRow : OpenClaim := { program := "ytopilodakphhgaadoor", sum := "47e5783f9c290e63cdc6fe4982dac53f9cf5114d147bdf12d80c3c0e3f46f975", func := "ambit/ambitlaw3.AccTurned", spec := "accTurned", inPlace := ["math.Float64bits", "math/bits.Sub64", "math/bits.Add64", "math/big.subVV", "math/big.rshVU", "math/big.addVV", "math/big.lshVU", "math.Float64frombits"], recurses := true, named := ["math/big.natOne"], apart := false, narrowed := true }
def AccTurnedUptoSaid : Prop := accTurnedUptoRow.holds Tryd.pinned (OpenSpec.upto accTurnedSpec)

/-- 'ambitlaw3.AccDoubles', WHERE WHAT IT READS IS OF BULK AT MOST 1048576: true; the input reads as it did. -/
def accDoublesUptoRow : OpenClaim := { program := "ytopilodakphhgaadoor", sum := "47e5783f9c290e63cdc6fe4982dac53f9cf5114d147bdf12d80c3c0e3f46f975", func := "ambit/ambitlaw3.AccDoubles", spec := "accDoubles", inPlace := ["math.Float64bits", "math/bits.Sub64", "math/bits.Add64", "math/big.subVV", "math/big.rshVU", "math/big.addVV", "math/big.lshVU", "math.Float64frombits"], recurses := true, named := ["math/big.natOne"], apart := false, narrowed := true }
def AccDoublesUptoSaid : Prop := accDoublesUptoRow.holds Tryd.pinned (OpenSpec.upto accDoublesSpec)

end Rows
end Go.Proofs.YtopilodakphhgaaDoor
