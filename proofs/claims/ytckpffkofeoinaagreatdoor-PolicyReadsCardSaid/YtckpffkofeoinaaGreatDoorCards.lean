/-
  DERIVED. GIVEN WITH THE SEED: THE CARDS: each row of YtckpffkofeoinaaGreatDoorRows.lean that lists a variable, with what it lists TIED to the program's text (the seventh form; the later family's looks); each row that meets fmt, with fmt's text TOLD by the authors' own Lean function (tested against real Go, not proved from fmt's source: count such statements apart). THE CARD IS WHAT COUNTS. Prove the row's statement (the work); the ties are given (YtckpffkofeoinaaGreatDoorTie.lean); close each card by the builder's one call (the guide's Derived/Test/ToyasCard.lean, 'card_holds'). Laid BY PROGRAM, IN A SANDBOX (cutbox-door.mjs). By AI agents, Wed Nov 11 2026. No macro, syntax, notation, axiom, sorry.
-/
import Derived.Test.YtckpffkofeoinaaGreatDoorRows
import GoSem.ClaimSeven
namespace Go.Proofs.YtckpffkofeoinaaGreatDoor
namespace Rows

/-- THE TIED CARD OF 'runnellaw22.PolicyReads'. -/
def policyReadsCard : Claim7 := { stood := { row := policyReadsRow, standIns := [], harness := (true, "b5e126a4150ac7184b5ae936e9a60d2151a3791f17b978302b2c9c19ed2cc9fd"), looks := false }, kinds := [], alts := [], laidByText := true, laidKinds := [.data, .pinned], laidTests := true, laidLooks := .later }
def PolicyReadsCardSaid : Prop := Claim7.holds Tryz.pinned (.plain (OpenSpec.ofChange policyReadsSpec)) policyReadsCard

/-- THE SECOND FORM's CARD OF 'runnellaw22.PolicyReads'. -/
def policyReadsUptoCard : Claim7 := { stood := { row := policyReadsUptoRow, standIns := [], harness := (true, "b5e126a4150ac7184b5ae936e9a60d2151a3791f17b978302b2c9c19ed2cc9fd"), looks := false }, kinds := [], alts := [], laidByText := true, laidKinds := [.data, .pinned], laidTests := true, laidLooks := .later }
def PolicyReadsUptoCardSaid : Prop := Claim7.holds Tryz.pinned (.plain (OpenSpec.upto policyReadsSpec)) policyReadsUptoCard
end Rows
end Go.Proofs.YtckpffkofeoinaaGreatDoor
