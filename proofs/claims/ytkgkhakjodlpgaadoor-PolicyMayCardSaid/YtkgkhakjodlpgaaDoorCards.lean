/-
  DERIVED. GIVEN WITH THE SEED: THE CARDS: each row of YtkgkhakjodlpgaaDoorRows.lean that lists a variable, with what it lists TIED to the program's text (the seventh form; the later family's looks); each row that meets fmt, with fmt's text TOLD by the authors' own Lean function (tested against real Go, not proved from fmt's source: count such statements apart). THE CARD IS WHAT COUNTS. Prove the row's statement (the work); the ties are given (YtkgkhakjodlpgaaDoorTie.lean); close each card by the builder's one call (the guide's Derived/Test/ToyasCard.lean, 'card_holds'). Laid BY PROGRAM, IN A SANDBOX (cutbox-door.mjs). By AI agents, Wed Nov 11 2026. No macro, syntax, notation, axiom, sorry.
-/
import Derived.Test.YtkgkhakjodlpgaaDoorRows
import GoSem.ClaimSeven
namespace Go.Proofs.YtkgkhakjodlpgaaDoor
namespace Rows

/-- THE TIED CARD OF 'runnellaw22.PolicyMay'. -/
def policyMayCard : Claim7 := { stood := { row := policyMayRow, standIns := [], harness := (true, "d8d3d285d6edb5406967d949ef8047892ae36fb17cd7bc2cfaf696c1100676ec"), looks := false }, kinds := [], alts := [], laidByText := true, laidKinds := [.data, .pinned], laidTests := true, laidLooks := .later }
def PolicyMayCardSaid : Prop := Claim7.holds Tryd.pinned (.plain (OpenSpec.ofChange policyMaySpec)) policyMayCard

/-- THE SECOND FORM's CARD OF 'runnellaw22.PolicyMay'. -/
def policyMayUptoCard : Claim7 := { stood := { row := policyMayUptoRow, standIns := [], harness := (true, "d8d3d285d6edb5406967d949ef8047892ae36fb17cd7bc2cfaf696c1100676ec"), looks := false }, kinds := [], alts := [], laidByText := true, laidKinds := [.data, .pinned], laidTests := true, laidLooks := .later }
def PolicyMayUptoCardSaid : Prop := Claim7.holds Tryd.pinned (.plain (OpenSpec.upto policyMaySpec)) policyMayUptoCard
end Rows
end Go.Proofs.YtkgkhakjodlpgaaDoor
