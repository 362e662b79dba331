/-
  No cell of these rows narrows 'for every input' (looked for: loops, veiled, ifaces, maps, wideKeys, modest, calm, conditions, laid).
  DERIVED. THE GIVEN ROWS OF THIS SEAT. 6 by the template 'for every input the law returns true; each argument reads behind the call as it read before'; 0 by the template 'total and deterministic' (their statements: YtbjnlacacapjiaaTotals.lean).
  GIVEN WITH THE SEED: the statements are not yours to turn. If you find one false, say at which input.
  Laid BY PROGRAM, IN A SANDBOX (cutbox-rows.mjs): the forced cells as the released guide's own fill.sh prints them over the translation 44e6c591da292b60… (all of the seat's roots in one cut). By AI agents, Wed Nov 11 2026. No macro, syntax, notation, axiom, sorry.
-/
import Derived.Test.YtbjnlacacapjiaaChecked
import GoSem.Claim
import GoSem.ClaimJoined
import GoSem.ClaimMapViews
import Derived.JoinedTies
import Derived.KernelRfl
namespace Go.Proofs.Ytbjnlacacapjiaa
/- THE CELL 'sum', in the pinned program and in every row, IS THE sha256 OF THE DUMP (.gsa) THAT YtbjnlacacapjiaaProg.lean LOADS. Nothing in Lean hashes anything: it is a label: what it is worth is what the hold of that sum in a sandbox is worth. -/
noncomputable def Try.pinned : Pinned := { name := "ytbjnlacacapjiaa", sum := "44e6c591da292b609f1ebdfe5c417161770f7564343af4db467b5aba6b557aa6", checked := Try.checked }
namespace Rows
def none {H : Type} : Left H := { results := [], args := [] }

/-- 'screelaw13.VersionNames': WHATEVER THE INPUT: true; the input reads as it did. -/
def versionNamesSpec : ChangeSpec := { name := "versionNames", fn := fun _ => fun
  | [] => { results := [.lit (.bool true)], args := [] }
  | _ => none }
def versionNamesRow : OpenClaim := { program := "ytbjnlacacapjiaa", sum := "44e6c591da292b609f1ebdfe5c417161770f7564343af4db467b5aba6b557aa6", func := "scree/screelaw13.VersionNames", spec := "versionNames", apart := false }
def VersionNamesSaid : Prop := versionNamesRow.holds Try.pinned (OpenSpec.ofChange versionNamesSpec)

/-- ITS FALSE NEIGHBOUR: 'it returns false'. Refute it at one input. -/
def versionNamesWrong : ChangeSpec := { name := "versionNames", fn := fun _ => fun
  | [] => { results := [.lit (.bool false)], args := [] }
  | _ => none }
def VersionNamesWrongFalsely : Prop := versionNamesRow.holds Try.pinned (OpenSpec.ofChange versionNamesWrong)

/-- 'screelaw16.PickNames': WHATEVER THE INPUT: true; the input reads as it did. -/
def pickNamesSpec : ChangeSpec := { name := "pickNames", fn := fun _ => fun
  | [] => { results := [.lit (.bool true)], args := [] }
  | _ => none }
def pickNamesRow : OpenClaim := { program := "ytbjnlacacapjiaa", sum := "44e6c591da292b609f1ebdfe5c417161770f7564343af4db467b5aba6b557aa6", func := "scree/screelaw16.PickNames", spec := "pickNames", apart := false }
def PickNamesSaid : Prop := pickNamesRow.holds Try.pinned (OpenSpec.ofChange pickNamesSpec)

/-- ITS FALSE NEIGHBOUR: 'it returns false'. Refute it at one input. -/
def pickNamesWrong : ChangeSpec := { name := "pickNames", fn := fun _ => fun
  | [] => { results := [.lit (.bool false)], args := [] }
  | _ => none }
def PickNamesWrongFalsely : Prop := pickNamesRow.holds Try.pinned (OpenSpec.ofChange pickNamesWrong)

/-- 'screelaw13.VersionGone': WHATEVER THE INPUT: true; the input reads as it did. -/
def versionGoneSpec : ChangeSpec := { name := "versionGone", fn := fun _ => fun
  | [d1, d2] => { results := [.lit (.bool true)], args := [d1, d2] }
  | _ => none }
def versionGoneRow : OpenClaim := { program := "ytbjnlacacapjiaa", sum := "44e6c591da292b609f1ebdfe5c417161770f7564343af4db467b5aba6b557aa6", func := "scree/screelaw13.VersionGone", spec := "versionGone", inPlace := ["internal/bytealg.abigen_runtime_cmpstring"], unfollowed := true, recurses := true, apart := false }
def VersionGoneSaid : Prop := versionGoneRow.holds Try.pinned (OpenSpec.ofChange versionGoneSpec)

/-- ITS FALSE NEIGHBOUR: 'it returns false'. Refute it at one input. -/
def versionGoneWrong : ChangeSpec := { name := "versionGone", fn := fun _ => fun
  | [d1, d2] => { results := [.lit (.bool false)], args := [d1, d2] }
  | _ => none }
def VersionGoneWrongFalsely : Prop := versionGoneRow.holds Try.pinned (OpenSpec.ofChange versionGoneWrong)

/-- 'screelaw13.VersionShape': WHATEVER THE INPUT: true; the input reads as it did. -/
def versionShapeSpec : ChangeSpec := { name := "versionShape", fn := fun _ => fun
  | [d1, d2] => { results := [.lit (.bool true)], args := [d1, d2] }
  | _ => none }
def versionShapeRow : OpenClaim := { program := "ytbjnlacacapjiaa", sum := "44e6c591da292b609f1ebdfe5c417161770f7564343af4db467b5aba6b557aa6", func := "scree/screelaw13.VersionShape", spec := "versionShape", inPlace := ["internal/bytealg.abigen_runtime_cmpstring"], unfollowed := true, recurses := true, apart := false }
def VersionShapeSaid : Prop := versionShapeRow.holds Try.pinned (OpenSpec.ofChange versionShapeSpec)

/-- ITS FALSE NEIGHBOUR: 'it returns false'. Refute it at one input. -/
def versionShapeWrong : ChangeSpec := { name := "versionShape", fn := fun _ => fun
  | [d1, d2] => { results := [.lit (.bool false)], args := [d1, d2] }
  | _ => none }
def VersionShapeWrongFalsely : Prop := versionShapeRow.holds Try.pinned (OpenSpec.ofChange versionShapeWrong)

/-- 'screelaw16.PickFair': WHATEVER THE INPUT: true; the input reads as it did. -/
def pickFairSpec : ChangeSpec := { name := "pickFair", fn := fun _ => fun
  | [d1, d2, d3, d4] => { results := [.lit (.bool true)], args := [d1, d2, d3, d4] }
  | _ => none }
def pickFairRow : OpenClaim := { program := "ytbjnlacacapjiaa", sum := "44e6c591da292b609f1ebdfe5c417161770f7564343af4db467b5aba6b557aa6", func := "scree/screelaw16.PickFair", spec := "pickFair", inPlace := ["internal/bytealg.abigen_runtime_cmpstring"], unfollowed := true, recurses := true, apart := false }
def PickFairSaid : Prop := pickFairRow.holds Try.pinned (OpenSpec.ofChange pickFairSpec)

/-- ITS FALSE NEIGHBOUR: 'it returns false'. Refute it at one input. -/
def pickFairWrong : ChangeSpec := { name := "pickFair", fn := fun _ => fun
  | [d1, d2, d3, d4] => { results := [.lit (.bool false)], args := [d1, d2, d3, d4] }
  | _ => none }
def PickFairWrongFalsely : Prop := pickFairRow.holds Try.pinned (OpenSpec.ofChange pickFairWrong)

/-- 'screelaw16.PickRound': WHATEVER THE INPUT: true; the input reads as it did. -/
def pickRoundSpec : ChangeSpec := { name := "pickRound", fn := fun _ => fun
  | [d1, d2, d3, d4] => { results := [.lit (.bool true)], args := [d1, d2, d3, d4] }
  | _ => none }
def pickRoundRow : OpenClaim := { program := "ytbjnlacacapjiaa", sum := "44e6c591da292b609f1ebdfe5c417161770f7564343af4db467b5aba6b557aa6", func := "scree/screelaw16.PickRound", spec := "pickRound", inPlace := ["internal/bytealg.abigen_runtime_cmpstring"], unfollowed := true, recurses := true, apart := false }
def PickRoundSaid : Prop := pickRoundRow.holds Try.pinned (OpenSpec.ofChange pickRoundSpec)

/-- ITS FALSE NEIGHBOUR: 'it returns false'. Refute it at one input. -/
def pickRoundWrong : ChangeSpec := { name := "pickRound", fn := fun _ => fun
  | [d1, d2, d3, d4] => { results := [.lit (.bool false)], args := [d1, d2, d3, d4] }
  | _ => none }
def PickRoundWrongFalsely : Prop := pickRoundRow.holds Try.pinned (OpenSpec.ofChange pickRoundWrong)

/- THE SECOND FORM. 'bulk': how many values and letters a reading holds, each counted each time it is reached (what is shared counts as often as it is met; a slice's spare places count too). A statement '..UptoSaid' is the law's where the arguments, and the package variables that the reading takes, are together of bulk at most 1048576: NARROWER than '..Said'. Prove '..Said' where nothing that the law and all that it calls make is longer than what came in: it says more and counts as full. Else prove '..UptoSaid'. A law counts once. -/
mutual
def uptoBulk {H : Type} : DataW H → Nat
  | .lit (.string bytes) => bytes.length + 1
  | .lit _ => 1
  | .nil => 1
  | .ptr d => uptoBulk d + 1
  | .slice elems spare => uptoBulkAll elems + uptoBulkAll spare + 1
  | .agg parts => uptoBulkAll parts + 1
  | .iface _ d => uptoBulk d + 1
  | .map entries => uptoBulkEntries entries + 1
  | .held _ => 1
def uptoBulkAll {H : Type} : List (DataW H) → Nat
  | [] => 0
  | d :: r => uptoBulk d + uptoBulkAll r
def uptoBulkEntries {H : Type} : List (Lit × DataW H) → Nat
  | [] => 0
  | x :: r => uptoBulkEntry x + uptoBulkEntries r
def uptoBulkEntry {H : Type} : Lit × DataW H → Nat
  | (.string bytes, d) => bytes.length + uptoBulk d + 1
  | (_, d) => uptoBulk d + 1
 end
def uptoSmall : (H : Type) → List (DataW H) → Bool := fun _ ds => decide (uptoBulkAll ds ≤ 1048576)
def OpenSpec.upto (s : _root_.Go.ChangeSpec) : _root_.Go.OpenSpec := { _root_.Go.OpenSpec.ofChange s with cond := some uptoSmall }

/-- 'screelaw13.VersionNames', WHERE WHAT IT READS IS OF BULK AT MOST 1048576: true; the input reads as it did. -/
def versionNamesUptoRow : OpenClaim := { program := "ytbjnlacacapjiaa", sum := "44e6c591da292b609f1ebdfe5c417161770f7564343af4db467b5aba6b557aa6", func := "scree/screelaw13.VersionNames", spec := "versionNames", apart := false, narrowed := true }
def VersionNamesUptoSaid : Prop := versionNamesUptoRow.holds Try.pinned (OpenSpec.upto versionNamesSpec)

/-- 'screelaw16.PickNames', WHERE WHAT IT READS IS OF BULK AT MOST 1048576: true; the input reads as it did. -/
def pickNamesUptoRow : OpenClaim := { program := "ytbjnlacacapjiaa", sum := "44e6c591da292b609f1ebdfe5c417161770f7564343af4db467b5aba6b557aa6", func := "scree/screelaw16.PickNames", spec := "pickNames", apart := false, narrowed := true }
def PickNamesUptoSaid : Prop := pickNamesUptoRow.holds Try.pinned (OpenSpec.upto pickNamesSpec)

/-- 'screelaw13.VersionGone', WHERE WHAT IT READS IS OF BULK AT MOST 1048576: true; the input reads as it did. -/
def versionGoneUptoRow : OpenClaim := { program := "ytbjnlacacapjiaa", sum := "44e6c591da292b609f1ebdfe5c417161770f7564343af4db467b5aba6b557aa6", func := "scree/screelaw13.VersionGone", spec := "versionGone", inPlace := ["internal/bytealg.abigen_runtime_cmpstring"], unfollowed := true, recurses := true, apart := false, narrowed := true }
def VersionGoneUptoSaid : Prop := versionGoneUptoRow.holds Try.pinned (OpenSpec.upto versionGoneSpec)

/-- 'screelaw13.VersionShape', WHERE WHAT IT READS IS OF BULK AT MOST 1048576: true; the input reads as it did. -/
def versionShapeUptoRow : OpenClaim := { program := "ytbjnlacacapjiaa", sum := "44e6c591da292b609f1ebdfe5c417161770f7564343af4db467b5aba6b557aa6", func := "scree/screelaw13.VersionShape", spec := "versionShape", inPlace := ["internal/bytealg.abigen_runtime_cmpstring"], unfollowed := true, recurses := true, apart := false, narrowed := true }
def VersionShapeUptoSaid : Prop := versionShapeUptoRow.holds Try.pinned (OpenSpec.upto versionShapeSpec)

/-- 'screelaw16.PickFair', WHERE WHAT IT READS IS OF BULK AT MOST 1048576: true; the input reads as it did. -/
def pickFairUptoRow : OpenClaim := { program := "ytbjnlacacapjiaa", sum := "44e6c591da292b609f1ebdfe5c417161770f7564343af4db467b5aba6b557aa6", func := "scree/screelaw16.PickFair", spec := "pickFair", inPlace := ["internal/bytealg.abigen_runtime_cmpstring"], unfollowed := true, recurses := true, apart := false, narrowed := true }
def PickFairUptoSaid : Prop := pickFairUptoRow.holds Try.pinned (OpenSpec.upto pickFairSpec)

/-- 'screelaw16.PickRound', WHERE WHAT IT READS IS OF BULK AT MOST 1048576: true; the input reads as it did. -/
def pickRoundUptoRow : OpenClaim := { program := "ytbjnlacacapjiaa", sum := "44e6c591da292b609f1ebdfe5c417161770f7564343af4db467b5aba6b557aa6", func := "scree/screelaw16.PickRound", spec := "pickRound", inPlace := ["internal/bytealg.abigen_runtime_cmpstring"], unfollowed := true, recurses := true, apart := false, narrowed := true }
def PickRoundUptoSaid : Prop := pickRoundUptoRow.holds Try.pinned (OpenSpec.upto pickRoundSpec)

end Rows
end Go.Proofs.Ytbjnlacacapjiaa
