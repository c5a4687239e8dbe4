/-
  DERIVED. GIVEN WITH THE SEED: THE CARDS: each row of YtckpffkofeoinaaDoorRows.lean that lists a variable, with what it lists TIED to the program's text (the seventh form; the later family's looks); each row that meets fmt, with fmt's text TOLD by the authors' own Lean function (tested against real Go, not proved from fmt's source: count such statements apart). THE CARD IS WHAT COUNTS. Prove the row's statement (the work); the ties are given (YtckpffkofeoinaaDoorTie.lean); close each card by the builder's one call (the guide's Derived/Test/ToyasCard.lean, 'card_holds'). Laid BY PROGRAM, IN A SANDBOX (cutbox-door.mjs). By AI agents, Wed Nov 11 2026. No macro, syntax, notation, axiom, sorry.
-/
import Derived.Test.YtckpffkofeoinaaDoorRows
import GoSem.ClaimSeven
namespace Go.Proofs.YtckpffkofeoinaaDoor
namespace Rows

/-- THE TIED CARD OF 'runnellaw22.PolicyChannels'. -/
def policyChannelsCard : Claim7 := { stood := { row := policyChannelsRow, standIns := [], harness := (true, "bca98f9c4e2e2c1a9e4071d6ad311624f912b2dd412613b5848ed4893b9a8b79"), looks := false }, kinds := [], alts := [], laidByText := true, laidKinds := [.data, .pinned], laidTests := true, laidLooks := .later }
def PolicyChannelsCardSaid : Prop := Claim7.holds Tryd.pinned (.plain (OpenSpec.ofChange policyChannelsSpec)) policyChannelsCard

/-- THE TIED CARD OF 'runnellaw22.PolicyBack'. -/
def policyBackCard : Claim7 := { stood := { row := policyBackRow, standIns := [], harness := (true, "bca98f9c4e2e2c1a9e4071d6ad311624f912b2dd412613b5848ed4893b9a8b79"), looks := false }, kinds := [], alts := [], laidByText := true, laidKinds := [.data, .pinned], laidTests := true, laidLooks := .later }
def PolicyBackCardSaid : Prop := Claim7.holds Tryd.pinned (.plain (OpenSpec.ofChange policyBackSpec)) policyBackCard

/-- THE TIED CARD OF 'runnellaw22.PolicyLines'. -/
def policyLinesCard : Claim7 := { stood := { row := policyLinesRow, standIns := [], harness := (true, "bca98f9c4e2e2c1a9e4071d6ad311624f912b2dd412613b5848ed4893b9a8b79"), looks := false }, kinds := [], alts := [], laidByText := true, laidKinds := [.data, .pinned], laidTests := true, laidLooks := .later }
def PolicyLinesCardSaid : Prop := Claim7.holds Tryd.pinned (.plain (OpenSpec.ofChange policyLinesSpec)) policyLinesCard

/-- THE SECOND FORM's CARD OF 'runnellaw22.PolicyChannels'. -/
def policyChannelsUptoCard : Claim7 := { stood := { row := policyChannelsUptoRow, standIns := [], harness := (true, "bca98f9c4e2e2c1a9e4071d6ad311624f912b2dd412613b5848ed4893b9a8b79"), looks := false }, kinds := [], alts := [], laidByText := true, laidKinds := [.data, .pinned], laidTests := true, laidLooks := .later }
def PolicyChannelsUptoCardSaid : Prop := Claim7.holds Tryd.pinned (.plain (OpenSpec.upto policyChannelsSpec)) policyChannelsUptoCard

/-- THE SECOND FORM's CARD OF 'runnellaw22.PolicyBack'. -/
def policyBackUptoCard : Claim7 := { stood := { row := policyBackUptoRow, standIns := [], harness := (true, "bca98f9c4e2e2c1a9e4071d6ad311624f912b2dd412613b5848ed4893b9a8b79"), looks := false }, kinds := [], alts := [], laidByText := true, laidKinds := [.data, .pinned], laidTests := true, laidLooks := .later }
def PolicyBackUptoCardSaid : Prop := Claim7.holds Tryd.pinned (.plain (OpenSpec.upto policyBackSpec)) policyBackUptoCard

/-- THE SECOND FORM's CARD OF 'runnellaw22.PolicyLines'. -/
def policyLinesUptoCard : Claim7 := { stood := { row := policyLinesUptoRow, standIns := [], harness := (true, "bca98f9c4e2e2c1a9e4071d6ad311624f912b2dd412613b5848ed4893b9a8b79"), looks := false }, kinds := [], alts := [], laidByText := true, laidKinds := [.data, .pinned], laidTests := true, laidLooks := .later }
def PolicyLinesUptoCardSaid : Prop := Claim7.holds Tryd.pinned (.plain (OpenSpec.upto policyLinesSpec)) policyLinesUptoCard
end Rows
end Go.Proofs.YtckpffkofeoinaaDoor
