/-
  DERIVED. GIVEN WITH THE SEED: THE CARDS: each row of YtblghgacokoklaaDoorRows.lean that lists a variable, with what it lists TIED to the program's text (the seventh form; the later family's looks); each row that meets fmt, with fmt's text TOLD by the authors' own Lean function (tested against real Go, not proved from fmt's source: count such statements apart). THE CARD IS WHAT COUNTS. Prove the row's statement (the work); the ties are given (YtblghgacokoklaaDoorTie.lean); close each card by the builder's one call (the guide's Derived/Test/ToyasCard.lean, 'card_holds'). Laid BY PROGRAM, IN A SANDBOX (cutbox-door.mjs). By AI agents, Wed Nov 11 2026. No macro, syntax, notation, axiom, sorry.
-/
import Derived.Test.YtblghgacokoklaaDoorRows
import GoSem.ClaimSeven
namespace Go.Proofs.YtblghgacokoklaaDoor
namespace Rows

/-- THE TIED CARD OF 'screelaw14.ManifestNames'. -/
def manifestNamesCard : Claim7 := { stood := { row := manifestNamesRow, standIns := [], harness := (true, "7bfe45f4d7d1248fbb256a9a881accb087cc8ebbb082f31669a99a686b5bfe16"), looks := false }, kinds := [], alts := [], laidByText := true, laidKinds := [.data], laidTests := true, laidLooks := .later }
def ManifestNamesCardSaid : Prop := Claim7.holds Tryd.pinned (.plain (OpenSpec.ofChange manifestNamesSpec)) manifestNamesCard

/-- THE TIED CARD OF 'screelaw14.ManifestPuts'. -/
def manifestPutsCard : Claim7 := { stood := { row := manifestPutsRow, standIns := [], harness := (true, "7bfe45f4d7d1248fbb256a9a881accb087cc8ebbb082f31669a99a686b5bfe16"), looks := false }, kinds := [], alts := [], laidByText := true, laidKinds := [.data], laidTests := true, laidLooks := .later }
def ManifestPutsCardSaid : Prop := Claim7.holds Tryd.pinned (.plain (OpenSpec.ofChange manifestPutsSpec)) manifestPutsCard

/-- THE TIED CARD OF 'screelaw14.ManifestKeeps'. -/
def manifestKeepsCard : Claim7 := { stood := { row := manifestKeepsRow, standIns := [], harness := (true, "7bfe45f4d7d1248fbb256a9a881accb087cc8ebbb082f31669a99a686b5bfe16"), looks := false }, kinds := [], alts := [], laidByText := true, laidKinds := [.data], laidTests := true, laidLooks := .later }
def ManifestKeepsCardSaid : Prop := Claim7.holds Tryd.pinned (.plain (OpenSpec.ofChange manifestKeepsSpec)) manifestKeepsCard

/-- THE SECOND FORM's CARD OF 'screelaw14.ManifestNames'. -/
def manifestNamesUptoCard : Claim7 := { stood := { row := manifestNamesUptoRow, standIns := [], harness := (true, "7bfe45f4d7d1248fbb256a9a881accb087cc8ebbb082f31669a99a686b5bfe16"), looks := false }, kinds := [], alts := [], laidByText := true, laidKinds := [.data], laidTests := true, laidLooks := .later }
def ManifestNamesUptoCardSaid : Prop := Claim7.holds Tryd.pinned (.plain (OpenSpec.upto manifestNamesSpec)) manifestNamesUptoCard

/-- THE SECOND FORM's CARD OF 'screelaw14.ManifestPuts'. -/
def manifestPutsUptoCard : Claim7 := { stood := { row := manifestPutsUptoRow, standIns := [], harness := (true, "7bfe45f4d7d1248fbb256a9a881accb087cc8ebbb082f31669a99a686b5bfe16"), looks := false }, kinds := [], alts := [], laidByText := true, laidKinds := [.data], laidTests := true, laidLooks := .later }
def ManifestPutsUptoCardSaid : Prop := Claim7.holds Tryd.pinned (.plain (OpenSpec.upto manifestPutsSpec)) manifestPutsUptoCard

/-- THE SECOND FORM's CARD OF 'screelaw14.ManifestKeeps'. -/
def manifestKeepsUptoCard : Claim7 := { stood := { row := manifestKeepsUptoRow, standIns := [], harness := (true, "7bfe45f4d7d1248fbb256a9a881accb087cc8ebbb082f31669a99a686b5bfe16"), looks := false }, kinds := [], alts := [], laidByText := true, laidKinds := [.data], laidTests := true, laidLooks := .later }
def ManifestKeepsUptoCardSaid : Prop := Claim7.holds Tryd.pinned (.plain (OpenSpec.upto manifestKeepsSpec)) manifestKeepsUptoCard
end Rows
end Go.Proofs.YtblghgacokoklaaDoor
