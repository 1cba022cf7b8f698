/-
  NARROWER THAN 'FOR EVERY INPUT', by the rows' own cells (each row's printed sentence says how): ZonoBounds: calm · ZonoNews: calm · ZonoAgain: calm · ZonoOwn: calm.
  DERIVED. THE GIVEN ROWS OF THIS SEAT. 13 by the template 'for every input the law returns true; each argument reads behind the call as it read before'; 0 by the template 'total and deterministic' (their statements: YtpfbgenefjhcjaaGreatDoorTotals.lean).
  GIVEN WITH THE SEED: the statements are not yours to turn. If you find one false, say at which input.
  Laid BY PROGRAM, IN A SANDBOX (cutbox-rows.mjs): the forced cells as the released guide's own fill.sh prints them over the translation 4e8ee3cdcee13ca6… (all of the seat's roots in one cut). By AI agents, Wed Nov 11 2026. No macro, syntax, notation, axiom, sorry.
-/
import Derived.Test.YtpfbgenefjhcjaaGreatDoorChecked
import GoSem.Claim
import GoSem.ClaimJoined
import GoSem.ClaimMapViews
import Derived.JoinedTies
import Derived.KernelRfl
namespace Go.Proofs.YtpfbgenefjhcjaaGreatDoor
/- THE CELL 'sum', in the pinned program and in every row, IS THE sha256 OF THE DUMP (.gsa) THAT YtpfbgenefjhcjaaGreatDoorProg.lean LOADS. Nothing in Lean hashes anything: it is a label: what it is worth is what the hold of that sum in a sandbox is worth. -/
noncomputable def Tryz.pinned : Pinned := { name := "ytpfbgenefjhcjaagreatdoor", sum := "4e8ee3cdcee13ca605e88a82670aa9ba6819278c38891009322d9d44fc040afb", checked := Tryz.checked }
namespace Rows
def none {H : Type} : Left H := { results := [], args := [] }

/-- 'ambitlaw10.ZonoChecks': WHATEVER THE INPUT: true; the input reads as it did. -/
def zonoChecksSpec : ChangeSpec := { name := "zonoChecks", fn := fun _ => fun
  | [d] => { results := [.lit (.bool true)], args := [d] }
  | _ => none }
def zonoChecksRow : OpenClaim := { program := "ytpfbgenefjhcjaagreatdoor", sum := "4e8ee3cdcee13ca605e88a82670aa9ba6819278c38891009322d9d44fc040afb", func := "ambit/ambitlaw10.ZonoChecks", spec := "zonoChecks", inPlace := ["math.Float64bits", "math.Float64frombits", "math/bits.Sub64", "math/bits.Add64", "math/big.subVV", "math/big.rshVU", "math/big.addVV", "math/big.lshVU"], unfollowed := true, recurses := true, named := ["math/big.natOne"], apart := false }
def ZonoChecksSaid : Prop := zonoChecksRow.holds Tryz.pinned (OpenSpec.ofChange zonoChecksSpec)

/-- ITS FALSE NEIGHBOUR: 'it returns false'. Refute it at one input. -/
def zonoChecksWrong : ChangeSpec := { name := "zonoChecks", fn := fun _ => fun
  | [d] => { results := [.lit (.bool false)], args := [d] }
  | _ => none }
def ZonoChecksWrongFalsely : Prop := zonoChecksRow.holds Tryz.pinned (OpenSpec.ofChange zonoChecksWrong)

/-- 'ambitlaw10.ZonoAsks': WHATEVER THE INPUT: true; the input reads as it did. -/
def zonoAsksSpec : ChangeSpec := { name := "zonoAsks", fn := fun _ => fun
  | [d1, d2] => { results := [.lit (.bool true)], args := [d1, d2] }
  | _ => none }
def zonoAsksRow : OpenClaim := { program := "ytpfbgenefjhcjaagreatdoor", sum := "4e8ee3cdcee13ca605e88a82670aa9ba6819278c38891009322d9d44fc040afb", func := "ambit/ambitlaw10.ZonoAsks", spec := "zonoAsks", inPlace := ["math.Float64bits", "math.Float64frombits", "math/bits.Sub64", "math/bits.Add64", "math/big.subVV", "math/big.rshVU", "math/big.addVV", "math/big.lshVU"], unfollowed := true, recurses := true, named := ["math/big.natOne"], apart := false }
def ZonoAsksSaid : Prop := zonoAsksRow.holds Tryz.pinned (OpenSpec.ofChange zonoAsksSpec)

/-- ITS FALSE NEIGHBOUR: 'it returns false'. Refute it at one input. -/
def zonoAsksWrong : ChangeSpec := { name := "zonoAsks", fn := fun _ => fun
  | [d1, d2] => { results := [.lit (.bool false)], args := [d1, d2] }
  | _ => none }
def ZonoAsksWrongFalsely : Prop := zonoAsksRow.holds Tryz.pinned (OpenSpec.ofChange zonoAsksWrong)

/-- 'ambitlaw10.ZonoReaches': WHATEVER THE INPUT: true; the input reads as it did. -/
def zonoReachesSpec : ChangeSpec := { name := "zonoReaches", fn := fun _ => fun
  | [d1, d2, d3, d4] => { results := [.lit (.bool true)], args := [d1, d2, d3, d4] }
  | _ => none }
def zonoReachesRow : OpenClaim := { program := "ytpfbgenefjhcjaagreatdoor", sum := "4e8ee3cdcee13ca605e88a82670aa9ba6819278c38891009322d9d44fc040afb", func := "ambit/ambitlaw10.ZonoReaches", spec := "zonoReaches", inPlace := ["math.Float64bits", "math.Float64frombits", "math/bits.Sub64", "math/bits.Add64", "math/big.subVV", "math/big.rshVU", "math/big.addVV", "math/big.lshVU"], unfollowed := true, recurses := true, named := ["math/big.natOne"], apart := false }
def ZonoReachesSaid : Prop := zonoReachesRow.holds Tryz.pinned (OpenSpec.ofChange zonoReachesSpec)

/-- ITS FALSE NEIGHBOUR: 'it returns false'. Refute it at one input. -/
def zonoReachesWrong : ChangeSpec := { name := "zonoReaches", fn := fun _ => fun
  | [d1, d2, d3, d4] => { results := [.lit (.bool false)], args := [d1, d2, d3, d4] }
  | _ => none }
def ZonoReachesWrongFalsely : Prop := zonoReachesRow.holds Tryz.pinned (OpenSpec.ofChange zonoReachesWrong)

/-- 'ambitlaw10.ZonoLifts': WHATEVER THE INPUT: true; the input reads as it did. -/
def zonoLiftsSpec : ChangeSpec := { name := "zonoLifts", fn := fun _ => fun
  | [d1, d2, d3] => { results := [.lit (.bool true)], args := [d1, d2, d3] }
  | _ => none }
def zonoLiftsRow : OpenClaim := { program := "ytpfbgenefjhcjaagreatdoor", sum := "4e8ee3cdcee13ca605e88a82670aa9ba6819278c38891009322d9d44fc040afb", func := "ambit/ambitlaw10.ZonoLifts", spec := "zonoLifts", inPlace := ["math.Float64bits", "math.Float64frombits", "math/bits.Sub64", "math/bits.Add64", "math/big.subVV", "math/big.rshVU", "math/big.addVV", "math/big.lshVU"], unfollowed := true, recurses := true, named := ["math/big.natOne"], apart := false }
def ZonoLiftsSaid : Prop := zonoLiftsRow.holds Tryz.pinned (OpenSpec.ofChange zonoLiftsSpec)

/-- ITS FALSE NEIGHBOUR: 'it returns false'. Refute it at one input. -/
def zonoLiftsWrong : ChangeSpec := { name := "zonoLifts", fn := fun _ => fun
  | [d1, d2, d3] => { results := [.lit (.bool false)], args := [d1, d2, d3] }
  | _ => none }
def ZonoLiftsWrongFalsely : Prop := zonoLiftsRow.holds Tryz.pinned (OpenSpec.ofChange zonoLiftsWrong)

/-- 'ambitlaw10.ZonoBounds': WHATEVER THE INPUT: true; the input reads as it did. -/
def zonoBoundsSpec : ChangeSpec := { name := "zonoBounds", fn := fun _ => fun
  | [d] => { results := [.lit (.bool true)], args := [d] }
  | _ => none }
def zonoBoundsRow : OpenClaim := { program := "ytpfbgenefjhcjaagreatdoor", sum := "4e8ee3cdcee13ca605e88a82670aa9ba6819278c38891009322d9d44fc040afb", func := "ambit/ambitlaw10.ZonoBounds", spec := "zonoBounds", inPlace := ["math.Float64bits", "math.Float64frombits", "math/bits.Sub64", "math/bits.Add64", "math/big.subVV", "math/big.rshVU", "math/big.addVV", "math/big.lshVU"], unfollowed := true, recurses := true, named := ["math/big.natOne"], apart := false, calm := true, outside := [.timePasses] }
def ZonoBoundsSaid : Prop := zonoBoundsRow.holds Tryz.pinned (OpenSpec.ofChange zonoBoundsSpec)

/-- ITS FALSE NEIGHBOUR: 'it returns false'. Refute it at one input. -/
def zonoBoundsWrong : ChangeSpec := { name := "zonoBounds", fn := fun _ => fun
  | [d] => { results := [.lit (.bool false)], args := [d] }
  | _ => none }
def ZonoBoundsWrongFalsely : Prop := zonoBoundsRow.holds Tryz.pinned (OpenSpec.ofChange zonoBoundsWrong)

/-- 'ambitlaw10.ZonoNews': WHATEVER THE INPUT: true; the input reads as it did. -/
def zonoNewsSpec : ChangeSpec := { name := "zonoNews", fn := fun _ => fun
  | [d1, d2] => { results := [.lit (.bool true)], args := [d1, d2] }
  | _ => none }
def zonoNewsRow : OpenClaim := { program := "ytpfbgenefjhcjaagreatdoor", sum := "4e8ee3cdcee13ca605e88a82670aa9ba6819278c38891009322d9d44fc040afb", func := "ambit/ambitlaw10.ZonoNews", spec := "zonoNews", inPlace := ["math.Float64bits", "math.Float64frombits", "math/bits.Sub64", "math/bits.Add64", "math/big.subVV", "math/big.rshVU", "math/big.addVV", "math/big.lshVU"], unfollowed := true, recurses := true, named := ["math/big.natOne"], apart := false, calm := true, outside := [.timePasses] }
def ZonoNewsSaid : Prop := zonoNewsRow.holds Tryz.pinned (OpenSpec.ofChange zonoNewsSpec)

/-- ITS FALSE NEIGHBOUR: 'it returns false'. Refute it at one input. -/
def zonoNewsWrong : ChangeSpec := { name := "zonoNews", fn := fun _ => fun
  | [d1, d2] => { results := [.lit (.bool false)], args := [d1, d2] }
  | _ => none }
def ZonoNewsWrongFalsely : Prop := zonoNewsRow.holds Tryz.pinned (OpenSpec.ofChange zonoNewsWrong)

/-- 'ambitlaw10.ZonoTurns': WHATEVER THE INPUT: true; the input reads as it did. -/
def zonoTurnsSpec : ChangeSpec := { name := "zonoTurns", fn := fun _ => fun
  | [d1, d2] => { results := [.lit (.bool true)], args := [d1, d2] }
  | _ => none }
def zonoTurnsRow : OpenClaim := { program := "ytpfbgenefjhcjaagreatdoor", sum := "4e8ee3cdcee13ca605e88a82670aa9ba6819278c38891009322d9d44fc040afb", func := "ambit/ambitlaw10.ZonoTurns", spec := "zonoTurns", inPlace := ["math.Float64bits", "math.Float64frombits", "math/bits.Sub64", "math/bits.Add64", "math/big.subVV", "math/big.rshVU", "math/big.addVV", "math/big.lshVU"], unfollowed := true, recurses := true, named := ["math/big.natOne"], apart := false }
def ZonoTurnsSaid : Prop := zonoTurnsRow.holds Tryz.pinned (OpenSpec.ofChange zonoTurnsSpec)

/-- ITS FALSE NEIGHBOUR: 'it returns false'. Refute it at one input. -/
def zonoTurnsWrong : ChangeSpec := { name := "zonoTurns", fn := fun _ => fun
  | [d1, d2] => { results := [.lit (.bool false)], args := [d1, d2] }
  | _ => none }
def ZonoTurnsWrongFalsely : Prop := zonoTurnsRow.holds Tryz.pinned (OpenSpec.ofChange zonoTurnsWrong)

/-- 'ambitlaw10.ZonoBoxes': WHATEVER THE INPUT: true; the input reads as it did. -/
def zonoBoxesSpec : ChangeSpec := { name := "zonoBoxes", fn := fun _ => fun
  | [d1, d2, d3, d4] => { results := [.lit (.bool true)], args := [d1, d2, d3, d4] }
  | _ => none }
def zonoBoxesRow : OpenClaim := { program := "ytpfbgenefjhcjaagreatdoor", sum := "4e8ee3cdcee13ca605e88a82670aa9ba6819278c38891009322d9d44fc040afb", func := "ambit/ambitlaw10.ZonoBoxes", spec := "zonoBoxes", inPlace := ["math.Float64bits", "math.Float64frombits", "math/bits.Sub64", "math/bits.Add64", "math/big.subVV", "math/big.rshVU", "math/big.addVV", "math/big.lshVU"], unfollowed := true, recurses := true, named := ["math/big.natOne"], apart := false }
def ZonoBoxesSaid : Prop := zonoBoxesRow.holds Tryz.pinned (OpenSpec.ofChange zonoBoxesSpec)

/-- ITS FALSE NEIGHBOUR: 'it returns false'. Refute it at one input. -/
def zonoBoxesWrong : ChangeSpec := { name := "zonoBoxes", fn := fun _ => fun
  | [d1, d2, d3, d4] => { results := [.lit (.bool false)], args := [d1, d2, d3, d4] }
  | _ => none }
def ZonoBoxesWrongFalsely : Prop := zonoBoxesRow.holds Tryz.pinned (OpenSpec.ofChange zonoBoxesWrong)

/-- 'ambitlaw10.ZonoAgain': WHATEVER THE INPUT: true; the input reads as it did. -/
def zonoAgainSpec : ChangeSpec := { name := "zonoAgain", fn := fun _ => fun
  | [d1, d2, d3, d4, d5] => { results := [.lit (.bool true)], args := [d1, d2, d3, d4, d5] }
  | _ => none }
def zonoAgainRow : OpenClaim := { program := "ytpfbgenefjhcjaagreatdoor", sum := "4e8ee3cdcee13ca605e88a82670aa9ba6819278c38891009322d9d44fc040afb", func := "ambit/ambitlaw10.ZonoAgain", spec := "zonoAgain", inPlace := ["math.Float64bits", "math.Float64frombits", "math/bits.Sub64", "math/bits.Add64", "math/big.subVV", "math/big.rshVU", "math/big.addVV", "math/big.lshVU"], unfollowed := true, recurses := true, named := ["math/big.natOne"], apart := false, calm := true, outside := [.timePasses] }
def ZonoAgainSaid : Prop := zonoAgainRow.holds Tryz.pinned (OpenSpec.ofChange zonoAgainSpec)

/-- ITS FALSE NEIGHBOUR: 'it returns false'. Refute it at one input. -/
def zonoAgainWrong : ChangeSpec := { name := "zonoAgain", fn := fun _ => fun
  | [d1, d2, d3, d4, d5] => { results := [.lit (.bool false)], args := [d1, d2, d3, d4, d5] }
  | _ => none }
def ZonoAgainWrongFalsely : Prop := zonoAgainRow.holds Tryz.pinned (OpenSpec.ofChange zonoAgainWrong)

/-- 'ambitlaw10.ZonoAdds': WHATEVER THE INPUT: true; the input reads as it did. -/
def zonoAddsSpec : ChangeSpec := { name := "zonoAdds", fn := fun _ => fun
  | [d1, d2] => { results := [.lit (.bool true)], args := [d1, d2] }
  | _ => none }
def zonoAddsRow : OpenClaim := { program := "ytpfbgenefjhcjaagreatdoor", sum := "4e8ee3cdcee13ca605e88a82670aa9ba6819278c38891009322d9d44fc040afb", func := "ambit/ambitlaw10.ZonoAdds", spec := "zonoAdds", inPlace := ["math.Float64bits", "math.Float64frombits", "math/bits.Sub64", "math/bits.Add64", "math/big.subVV", "math/big.rshVU", "math/big.addVV", "math/big.lshVU"], unfollowed := true, recurses := true, named := ["math/big.natOne"], apart := false }
def ZonoAddsSaid : Prop := zonoAddsRow.holds Tryz.pinned (OpenSpec.ofChange zonoAddsSpec)

/-- ITS FALSE NEIGHBOUR: 'it returns false'. Refute it at one input. -/
def zonoAddsWrong : ChangeSpec := { name := "zonoAdds", fn := fun _ => fun
  | [d1, d2] => { results := [.lit (.bool false)], args := [d1, d2] }
  | _ => none }
def ZonoAddsWrongFalsely : Prop := zonoAddsRow.holds Tryz.pinned (OpenSpec.ofChange zonoAddsWrong)

/-- 'ambitlaw10.ZonoPlus': WHATEVER THE INPUT: true; the input reads as it did. -/
def zonoPlusSpec : ChangeSpec := { name := "zonoPlus", fn := fun _ => fun
  | [d1, d2, d3, d4, d5] => { results := [.lit (.bool true)], args := [d1, d2, d3, d4, d5] }
  | _ => none }
def zonoPlusRow : OpenClaim := { program := "ytpfbgenefjhcjaagreatdoor", sum := "4e8ee3cdcee13ca605e88a82670aa9ba6819278c38891009322d9d44fc040afb", func := "ambit/ambitlaw10.ZonoPlus", spec := "zonoPlus", inPlace := ["math.Float64bits", "math.Float64frombits", "math/bits.Sub64", "math/bits.Add64", "math/big.subVV", "math/big.rshVU", "math/big.addVV", "math/big.lshVU"], unfollowed := true, recurses := true, named := ["math/big.natOne"], apart := false }
def ZonoPlusSaid : Prop := zonoPlusRow.holds Tryz.pinned (OpenSpec.ofChange zonoPlusSpec)

/-- ITS FALSE NEIGHBOUR: 'it returns false'. Refute it at one input. -/
def zonoPlusWrong : ChangeSpec := { name := "zonoPlus", fn := fun _ => fun
  | [d1, d2, d3, d4, d5] => { results := [.lit (.bool false)], args := [d1, d2, d3, d4, d5] }
  | _ => none }
def ZonoPlusWrongFalsely : Prop := zonoPlusRow.holds Tryz.pinned (OpenSpec.ofChange zonoPlusWrong)

/-- 'ambitlaw10.ZonoPlays': WHATEVER THE INPUT: true; the input reads as it did. -/
def zonoPlaysSpec : ChangeSpec := { name := "zonoPlays", fn := fun _ => fun
  | [d1, d2] => { results := [.lit (.bool true)], args := [d1, d2] }
  | _ => none }
def zonoPlaysRow : OpenClaim := { program := "ytpfbgenefjhcjaagreatdoor", sum := "4e8ee3cdcee13ca605e88a82670aa9ba6819278c38891009322d9d44fc040afb", func := "ambit/ambitlaw10.ZonoPlays", spec := "zonoPlays", inPlace := ["math.Float64bits", "math.Float64frombits", "math/bits.Sub64", "math/bits.Add64", "math/big.subVV", "math/big.rshVU", "math/big.addVV", "math/big.lshVU"], unfollowed := true, recurses := true, named := ["math/big.natOne"], apart := false }
def ZonoPlaysSaid : Prop := zonoPlaysRow.holds Tryz.pinned (OpenSpec.ofChange zonoPlaysSpec)

/-- ITS FALSE NEIGHBOUR: 'it returns false'. Refute it at one input. -/
def zonoPlaysWrong : ChangeSpec := { name := "zonoPlays", fn := fun _ => fun
  | [d1, d2] => { results := [.lit (.bool false)], args := [d1, d2] }
  | _ => none }
def ZonoPlaysWrongFalsely : Prop := zonoPlaysRow.holds Tryz.pinned (OpenSpec.ofChange zonoPlaysWrong)

/-- 'ambitlaw10.ZonoOwn': WHATEVER THE INPUT: true; the input reads as it did. -/
def zonoOwnSpec : ChangeSpec := { name := "zonoOwn", fn := fun _ => fun
  | [d1, d2, d3] => { results := [.lit (.bool true)], args := [d1, d2, d3] }
  | _ => none }
def zonoOwnRow : OpenClaim := { program := "ytpfbgenefjhcjaagreatdoor", sum := "4e8ee3cdcee13ca605e88a82670aa9ba6819278c38891009322d9d44fc040afb", func := "ambit/ambitlaw10.ZonoOwn", spec := "zonoOwn", inPlace := ["math.Float64bits", "math.Float64frombits", "math/bits.Sub64", "math/bits.Add64", "math/big.subVV", "math/big.rshVU", "math/big.addVV", "math/big.lshVU"], unfollowed := true, recurses := true, named := ["math/big.natOne"], apart := false, calm := true, outside := [.timePasses] }
def ZonoOwnSaid : Prop := zonoOwnRow.holds Tryz.pinned (OpenSpec.ofChange zonoOwnSpec)

/-- ITS FALSE NEIGHBOUR: 'it returns false'. Refute it at one input. -/
def zonoOwnWrong : ChangeSpec := { name := "zonoOwn", fn := fun _ => fun
  | [d1, d2, d3] => { results := [.lit (.bool false)], args := [d1, d2, d3] }
  | _ => none }
def ZonoOwnWrongFalsely : Prop := zonoOwnRow.holds Tryz.pinned (OpenSpec.ofChange zonoOwnWrong)

/- THE SECOND FORM. 'bulk': how many values and letters a reading holds, each counted each time it is reached (what is shared counts as often as it is met; a slice's spare places count too). A statement '..UptoSaid' is the law's where the arguments, and the package variables that the reading takes, are together of bulk at most 1048576: NARROWER than '..Said'. Prove '..Said' where nothing that the law and all that it calls make is longer than what came in: it says more and counts as full. Else prove '..UptoSaid'. A law counts once. -/
mutual
def uptoBulk {H : Type} : DataW H → Nat
  | .lit (.string bytes) => bytes.length + 1
  | .lit _ => 1
  | .nil => 1
  | .ptr d => uptoBulk d + 1
  | .slice elems spare => uptoBulkAll elems + uptoBulkAll spare + 1
  | .agg parts => uptoBulkAll parts + 1
  | .iface _ d => uptoBulk d + 1
  | .map entries => uptoBulkEntries entries + 1
  | .held _ => 1
def uptoBulkAll {H : Type} : List (DataW H) → Nat
  | [] => 0
  | d :: r => uptoBulk d + uptoBulkAll r
def uptoBulkEntries {H : Type} : List (Lit × DataW H) → Nat
  | [] => 0
  | x :: r => uptoBulkEntry x + uptoBulkEntries r
def uptoBulkEntry {H : Type} : Lit × DataW H → Nat
  | (.string bytes, d) => bytes.length + uptoBulk d + 1
  | (_, d) => uptoBulk d + 1
 end
def uptoSmall : (H : Type) → List (DataW H) → Bool := fun _ ds => decide (uptoBulkAll ds ≤ 1048576)
def OpenSpec.upto (s : _root_.Go.ChangeSpec) : _root_.Go.OpenSpec := { _root_.Go.OpenSpec.ofChange s with cond := some uptoSmall }

/-- 'ambitlaw10.ZonoChecks', WHERE WHAT IT READS IS OF BULK AT MOST 1048576: true; the input reads as it did. -/
def zonoChecksUptoRow : OpenClaim := { program := "ytpfbgenefjhcjaagreatdoor", sum := "4e8ee3cdcee13ca605e88a82670aa9ba6819278c38891009322d9d44fc040afb", func := "ambit/ambitlaw10.ZonoChecks", spec := "zonoChecks", inPlace := ["math.Float64bits", "math.Float64frombits", "math/bits.Sub64", "math/bits.Add64", "math/big.subVV", "math/big.rshVU", "math/big.addVV", "math/big.lshVU"], unfollowed := true, recurses := true, named := ["math/big.natOne"], apart := false, narrowed := true }
def ZonoChecksUptoSaid : Prop := zonoChecksUptoRow.holds Tryz.pinned (OpenSpec.upto zonoChecksSpec)

/-- 'ambitlaw10.ZonoAsks', WHERE WHAT IT READS IS OF BULK AT MOST 1048576: true; the input reads as it did. -/
def zonoAsksUptoRow : OpenClaim := { program := "ytpfbgenefjhcjaagreatdoor", sum := "4e8ee3cdcee13ca605e88a82670aa9ba6819278c38891009322d9d44fc040afb", func := "ambit/ambitlaw10.ZonoAsks", spec := "zonoAsks", inPlace := ["math.Float64bits", "math.Float64frombits", "math/bits.Sub64", "math/bits.Add64", "math/big.subVV", "math/big.rshVU", "math/big.addVV", "math/big.lshVU"], unfollowed := true, recurses := true, named := ["math/big.natOne"], apart := false, narrowed := true }
def ZonoAsksUptoSaid : Prop := zonoAsksUptoRow.holds Tryz.pinned (OpenSpec.upto zonoAsksSpec)

/-- 'ambitlaw10.ZonoReaches', WHERE WHAT IT READS IS OF BULK AT MOST 1048576: true; the input reads as it did. -/
def zonoReachesUptoRow : OpenClaim := { program := "ytpfbgenefjhcjaagreatdoor", sum := "4e8ee3cdcee13ca605e88a82670aa9ba6819278c38891009322d9d44fc040afb", func := "ambit/ambitlaw10.ZonoReaches", spec := "zonoReaches", inPlace := ["math.Float64bits", "math.Float64frombits", "math/bits.Sub64", "math/bits.Add64", "math/big.subVV", "math/big.rshVU", "math/big.addVV", "math/big.lshVU"], unfollowed := true, recurses := true, named := ["math/big.natOne"], apart := false, narrowed := true }
def ZonoReachesUptoSaid : Prop := zonoReachesUptoRow.holds Tryz.pinned (OpenSpec.upto zonoReachesSpec)

/-- 'ambitlaw10.ZonoLifts', WHERE WHAT IT READS IS OF BULK AT MOST 1048576: true; the input reads as it did. -/
def zonoLiftsUptoRow : OpenClaim := { program := "ytpfbgenefjhcjaagreatdoor", sum := "4e8ee3cdcee13ca605e88a82670aa9ba6819278c38891009322d9d44fc040afb", func := "ambit/ambitlaw10.ZonoLifts", spec := "zonoLifts", inPlace := ["math.Float64bits", "math.Float64frombits", "math/bits.Sub64", "math/bits.Add64", "math/big.subVV", "math/big.rshVU", "math/big.addVV", "math/big.lshVU"], unfollowed := true, recurses := true, named := ["math/big.natOne"], apart := false, narrowed := true }
def ZonoLiftsUptoSaid : Prop := zonoLiftsUptoRow.holds Tryz.pinned (OpenSpec.upto zonoLiftsSpec)

/-- 'ambitlaw10.ZonoTurns', WHERE WHAT IT READS IS OF BULK AT MOST 1048576: true; the input reads as it did. -/
def zonoTurnsUptoRow : OpenClaim := { program := "ytpfbgenefjhcjaagreatdoor", sum := "4e8ee3cdcee13ca605e88a82670aa9ba6819278c38891009322d9d44fc040afb", func := "ambit/ambitlaw10.ZonoTurns", spec := "zonoTurns", inPlace := ["math.Float64bits", "math.Float64frombits", "math/bits.Sub64", "math/bits.Add64", "math/big.subVV", "math/big.rshVU", "math/big.addVV", "math/big.lshVU"], unfollowed := true, recurses := true, named := ["math/big.natOne"], apart := false, narrowed := true }
def ZonoTurnsUptoSaid : Prop := zonoTurnsUptoRow.holds Tryz.pinned (OpenSpec.upto zonoTurnsSpec)

/-- 'ambitlaw10.ZonoBoxes', WHERE WHAT IT READS IS OF BULK AT MOST 1048576: true; the input reads as it did. -/
def zonoBoxesUptoRow : OpenClaim := { program := "ytpfbgenefjhcjaagreatdoor", sum := "4e8ee3cdcee13ca605e88a82670aa9ba6819278c38891009322d9d44fc040afb", func := "ambit/ambitlaw10.ZonoBoxes", spec := "zonoBoxes", inPlace := ["math.Float64bits", "math.Float64frombits", "math/bits.Sub64", "math/bits.Add64", "math/big.subVV", "math/big.rshVU", "math/big.addVV", "math/big.lshVU"], unfollowed := true, recurses := true, named := ["math/big.natOne"], apart := false, narrowed := true }
def ZonoBoxesUptoSaid : Prop := zonoBoxesUptoRow.holds Tryz.pinned (OpenSpec.upto zonoBoxesSpec)

/-- 'ambitlaw10.ZonoAdds', WHERE WHAT IT READS IS OF BULK AT MOST 1048576: true; the input reads as it did. -/
def zonoAddsUptoRow : OpenClaim := { program := "ytpfbgenefjhcjaagreatdoor", sum := "4e8ee3cdcee13ca605e88a82670aa9ba6819278c38891009322d9d44fc040afb", func := "ambit/ambitlaw10.ZonoAdds", spec := "zonoAdds", inPlace := ["math.Float64bits", "math.Float64frombits", "math/bits.Sub64", "math/bits.Add64", "math/big.subVV", "math/big.rshVU", "math/big.addVV", "math/big.lshVU"], unfollowed := true, recurses := true, named := ["math/big.natOne"], apart := false, narrowed := true }
def ZonoAddsUptoSaid : Prop := zonoAddsUptoRow.holds Tryz.pinned (OpenSpec.upto zonoAddsSpec)

/-- 'ambitlaw10.ZonoPlus', WHERE WHAT IT READS IS OF BULK AT MOST 1048576: true; the input reads as it did. -/
def zonoPlusUptoRow : OpenClaim := { program := "ytpfbgenefjhcjaagreatdoor", sum := "4e8ee3cdcee13ca605e88a82670aa9ba6819278c38891009322d9d44fc040afb", func := "ambit/ambitlaw10.ZonoPlus", spec := "zonoPlus", inPlace := ["math.Float64bits", "math.Float64frombits", "math/bits.Sub64", "math/bits.Add64", "math/big.subVV", "math/big.rshVU", "math/big.addVV", "math/big.lshVU"], unfollowed := true, recurses := true, named := ["math/big.natOne"], apart := false, narrowed := true }
def ZonoPlusUptoSaid : Prop := zonoPlusUptoRow.holds Tryz.pinned (OpenSpec.upto zonoPlusSpec)

/-- 'ambitlaw10.ZonoPlays', WHERE WHAT IT READS IS OF BULK AT MOST 1048576: true; the input reads as it did. -/
def zonoPlaysUptoRow : OpenClaim := { program := "ytpfbgenefjhcjaagreatdoor", sum := "4e8ee3cdcee13ca605e88a82670aa9ba6819278c38891009322d9d44fc040afb", func := "ambit/ambitlaw10.ZonoPlays", spec := "zonoPlays", inPlace := ["math.Float64bits", "math.Float64frombits", "math/bits.Sub64", "math/bits.Add64", "math/big.subVV", "math/big.rshVU", "math/big.addVV", "math/big.lshVU"], unfollowed := true, recurses := true, named := ["math/big.natOne"], apart := false, narrowed := true }
def ZonoPlaysUptoSaid : Prop := zonoPlaysUptoRow.holds Tryz.pinned (OpenSpec.upto zonoPlaysSpec)

end Rows
end Go.Proofs.YtpfbgenefjhcjaaGreatDoor
