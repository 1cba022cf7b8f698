/-
  DERIVED. GIVEN WITH THE SEED: THE CARDS: each row of YtnpcfmehpchedaaDoorRows.lean that lists a variable, with what it lists TIED to the program's text (the seventh form; the later family's looks); each row that meets fmt, with fmt's text TOLD by the authors' own Lean function (tested against real Go, not proved from fmt's source: count such statements apart). THE CARD IS WHAT COUNTS. Prove the row's statement (the work); the ties are given (YtnpcfmehpchedaaDoorTie.lean); close each card by the builder's one call (the guide's Derived/Test/ToyasCard.lean, 'card_holds'). Laid BY PROGRAM, IN A SANDBOX (cutbox-door.mjs). By AI agents, Wed Nov 11 2026. No macro, syntax, notation, axiom, sorry.
-/
import Derived.Test.YtnpcfmehpchedaaDoorRows
import GoSem.ClaimSeven
namespace Go.Proofs.YtnpcfmehpchedaaDoor
namespace Rows

/-- THE TIED CARD OF 'ambitlaw0.NamesNumbers'. -/
def namesNumbersCard : Claim7 := { stood := { row := namesNumbersRow, standIns := [], harness := (true, "9dd7d187e1897667cbbb4aec5a2a53e9bd58516ac4041df2854754237b23437b"), looks := false }, kinds := [], alts := [], laidByText := true, laidKinds := [.data, .data, .data], laidTests := true, laidLooks := .later }
def NamesNumbersCardSaid : Prop := Claim7.holds Tryd.pinned (.plain (OpenSpec.ofChange namesNumbersSpec)) namesNumbersCard

/-- THE SECOND FORM's CARD OF 'ambitlaw0.NamesNumbers'. -/
def namesNumbersUptoCard : Claim7 := { stood := { row := namesNumbersUptoRow, standIns := [], harness := (true, "9dd7d187e1897667cbbb4aec5a2a53e9bd58516ac4041df2854754237b23437b"), looks := false }, kinds := [], alts := [], laidByText := true, laidKinds := [.data, .data, .data], laidTests := true, laidLooks := .later }
def NamesNumbersUptoCardSaid : Prop := Claim7.holds Tryd.pinned (.plain (OpenSpec.upto namesNumbersSpec)) namesNumbersUptoCard
end Rows
end Go.Proofs.YtnpcfmehpchedaaDoor
