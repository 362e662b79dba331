/-
  DERIVED. GIVEN WITH THE SEED: THE CARDS: each row of YtbjnlacacapjiaaGreatDoorRows.lean that lists a variable, with what it lists TIED to the program's text (the seventh form; the later family's looks); each row that meets fmt, with fmt's text TOLD by the authors' own Lean function (tested against real Go, not proved from fmt's source: count such statements apart). THE CARD IS WHAT COUNTS. Prove the row's statement (the work); the ties are given (YtbjnlacacapjiaaGreatDoorTie.lean); close each card by the builder's one call (the guide's Derived/Test/ToyasCard.lean, 'card_holds'). Laid BY PROGRAM, IN A SANDBOX (cutbox-door.mjs). By AI agents, Wed Nov 11 2026. No macro, syntax, notation, axiom, sorry.
-/
import Derived.Test.YtbjnlacacapjiaaGreatDoorRows
import GoSem.ClaimSeven
namespace Go.Proofs.YtbjnlacacapjiaaGreatDoor
namespace Rows

/-- THE TIED CARD OF 'screelaw13.VersionPlays'. -/
def versionPlaysCard : Claim7 := { stood := { row := versionPlaysRow, standIns := [], harness := (true, "af3ffa9ca3836100681ca83e042dd22a5c27bab9e6b27c821f33dae9a1081175"), looks := false }, kinds := [], alts := [], laidByText := true, laidKinds := [.data, .data, .data], laidTests := true, laidLooks := .later }
def VersionPlaysCardSaid : Prop := Claim7.holds Tryz.pinned (.plain (OpenSpec.ofChange versionPlaysSpec)) versionPlaysCard

/-- THE TIED CARD OF 'screelaw13.VersionMany'. -/
def versionManyCard : Claim7 := { stood := { row := versionManyRow, standIns := [], harness := (true, "af3ffa9ca3836100681ca83e042dd22a5c27bab9e6b27c821f33dae9a1081175"), looks := false }, kinds := [], alts := [], laidByText := true, laidKinds := [.data, .data, .data], laidTests := true, laidLooks := .later }
def VersionManyCardSaid : Prop := Claim7.holds Tryz.pinned (.plain (OpenSpec.ofChange versionManySpec)) versionManyCard

/-- THE TIED CARD OF 'screelaw16.PickFresh'. -/
def pickFreshCard : Claim7 := { stood := { row := pickFreshRow, standIns := [], harness := (true, "af3ffa9ca3836100681ca83e042dd22a5c27bab9e6b27c821f33dae9a1081175"), looks := false }, kinds := [], alts := [], laidByText := true, laidKinds := [.data, .data, .data], laidTests := true, laidLooks := .later }
def PickFreshCardSaid : Prop := Claim7.holds Tryz.pinned (.plain (OpenSpec.ofChange pickFreshSpec)) pickFreshCard

/-- THE SECOND FORM's CARD OF 'screelaw13.VersionPlays'. -/
def versionPlaysUptoCard : Claim7 := { stood := { row := versionPlaysUptoRow, standIns := [], harness := (true, "af3ffa9ca3836100681ca83e042dd22a5c27bab9e6b27c821f33dae9a1081175"), looks := false }, kinds := [], alts := [], laidByText := true, laidKinds := [.data, .data, .data], laidTests := true, laidLooks := .later }
def VersionPlaysUptoCardSaid : Prop := Claim7.holds Tryz.pinned (.plain (OpenSpec.upto versionPlaysSpec)) versionPlaysUptoCard

/-- THE SECOND FORM's CARD OF 'screelaw13.VersionMany'. -/
def versionManyUptoCard : Claim7 := { stood := { row := versionManyUptoRow, standIns := [], harness := (true, "af3ffa9ca3836100681ca83e042dd22a5c27bab9e6b27c821f33dae9a1081175"), looks := false }, kinds := [], alts := [], laidByText := true, laidKinds := [.data, .data, .data], laidTests := true, laidLooks := .later }
def VersionManyUptoCardSaid : Prop := Claim7.holds Tryz.pinned (.plain (OpenSpec.upto versionManySpec)) versionManyUptoCard

/-- THE SECOND FORM's CARD OF 'screelaw16.PickFresh'. -/
def pickFreshUptoCard : Claim7 := { stood := { row := pickFreshUptoRow, standIns := [], harness := (true, "af3ffa9ca3836100681ca83e042dd22a5c27bab9e6b27c821f33dae9a1081175"), looks := false }, kinds := [], alts := [], laidByText := true, laidKinds := [.data, .data, .data], laidTests := true, laidLooks := .later }
def PickFreshUptoCardSaid : Prop := Claim7.holds Tryz.pinned (.plain (OpenSpec.upto pickFreshSpec)) pickFreshUptoCard
end Rows
end Go.Proofs.YtbjnlacacapjiaaGreatDoor
