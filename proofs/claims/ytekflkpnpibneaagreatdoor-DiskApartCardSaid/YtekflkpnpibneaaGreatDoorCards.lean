/-
  DERIVED. GIVEN WITH THE SEED: THE CARDS: each row of YtekflkpnpibneaaGreatDoorRows.lean that lists a variable, with what it lists TIED to the program's text (the seventh form; the later family's looks); each row that meets fmt, with fmt's text TOLD by the authors' own Lean function (tested against real Go, not proved from fmt's source: count such statements apart). THE CARD IS WHAT COUNTS. Prove the row's statement (the work); the ties are given (YtekflkpnpibneaaGreatDoorTie.lean); close each card by the builder's one call (the guide's Derived/Test/ToyasCard.lean, 'card_holds'). Laid BY PROGRAM, IN A SANDBOX (cutbox-door.mjs). By AI agents, Wed Nov 11 2026. No macro, syntax, notation, axiom, sorry.
-/
import Derived.Test.YtekflkpnpibneaaGreatDoorRows
import GoSem.ClaimSeven
namespace Go.Proofs.YtekflkpnpibneaaGreatDoor
namespace Rows

/-- THE TIED CARD OF 'screelaw3.DiskApart'. -/
def diskApartCard : Claim7 := { stood := { row := diskApartRow, standIns := [], harness := (true, "1f48c3cc79cbbc382691afd080ea80e540797df844bb3372cc5d07979d2151d0"), looks := true }, kinds := [], alts := [], laidByText := true, laidKinds := [.data, .data, .data], laidTests := true, laidLooks := .later }
def DiskApartCardSaid : Prop := Claim7.holds Tryz.pinned (.plain (OpenSpec.ofChange diskApartSpec)) diskApartCard

/-- THE SECOND FORM's CARD OF 'screelaw3.DiskApart'. -/
def diskApartUptoCard : Claim7 := { stood := { row := diskApartUptoRow, standIns := [], harness := (true, "1f48c3cc79cbbc382691afd080ea80e540797df844bb3372cc5d07979d2151d0"), looks := true }, kinds := [], alts := [], laidByText := true, laidKinds := [.data, .data, .data], laidTests := true, laidLooks := .later }
def DiskApartUptoCardSaid : Prop := Claim7.holds Tryz.pinned (.plain (OpenSpec.upto diskApartSpec)) diskApartUptoCard
end Rows
end Go.Proofs.YtekflkpnpibneaaGreatDoor
