/-
  No cell of these rows narrows 'for every input' (looked for: loops, veiled, ifaces, maps, wideKeys, modest, calm, conditions, laid).
  DERIVED. THE GIVEN ROWS OF THIS SEAT. 5 by the template 'for every input the law returns true; each argument reads behind the call as it read before'; 0 by the template 'total and deterministic' (their statements: YtblghgacokoklaaTotals.lean).
  GIVEN WITH THE SEED: the statements are not yours to turn. If you find one false, say at which input.
  Laid BY PROGRAM, IN A SANDBOX (cutbox-rows.mjs): the forced cells as the released guide's own fill.sh prints them over the translation 87f580b2bb372a17… (all of the seat's roots in one cut). By AI agents, Wed Nov 11 2026. No macro, syntax, notation, axiom, sorry.
-/
import Derived.Test.YtblghgacokoklaaChecked
import GoSem.Claim
import GoSem.ClaimJoined
import GoSem.ClaimMapViews
import Derived.JoinedTies
import Derived.KernelRfl
namespace Go.Proofs.Ytblghgacokoklaa
/- THE CELL 'sum', in the pinned program and in every row, IS THE sha256 OF THE DUMP (.gsa) THAT YtblghgacokoklaaProg.lean LOADS. Nothing in Lean hashes anything: it is a label: what it is worth is what the hold of that sum in a sandbox is worth. -/
noncomputable def Try.pinned : Pinned := { name := "ytblghgacokoklaa", sum := "87f580b2bb372a171cef5018b65b354d012dbed68b8889492463325fc20770a6", checked := Try.checked }
namespace Rows
def none {H : Type} : Left H := { results := [], args := [] }

/-- 'screelaw14.ManifestNumbers': WHATEVER THE INPUT: true; the input reads as it did. -/
def manifestNumbersSpec : ChangeSpec := { name := "manifestNumbers", fn := fun _ => fun
  | [] => { results := [.lit (.bool true)], args := [] }
  | _ => none }
def manifestNumbersRow : OpenClaim := { program := "ytblghgacokoklaa", sum := "87f580b2bb372a171cef5018b65b354d012dbed68b8889492463325fc20770a6", func := "scree/screelaw14.ManifestNumbers", spec := "manifestNumbers", apart := false }
def ManifestNumbersSaid : Prop := manifestNumbersRow.holds Try.pinned (OpenSpec.ofChange manifestNumbersSpec)

/-- ITS FALSE NEIGHBOUR: 'it returns false'. Refute it at one input. -/
def manifestNumbersWrong : ChangeSpec := { name := "manifestNumbers", fn := fun _ => fun
  | [] => { results := [.lit (.bool false)], args := [] }
  | _ => none }
def ManifestNumbersWrongFalsely : Prop := manifestNumbersRow.holds Try.pinned (OpenSpec.ofChange manifestNumbersWrong)

/-- 'screelaw14.ManifestGets': WHATEVER THE INPUT: true; the input reads as it did. -/
def manifestGetsSpec : ChangeSpec := { name := "manifestGets", fn := fun _ => fun
  | [d] => { results := [.lit (.bool true)], args := [d] }
  | _ => none }
def manifestGetsRow : OpenClaim := { program := "ytblghgacokoklaa", sum := "87f580b2bb372a171cef5018b65b354d012dbed68b8889492463325fc20770a6", func := "scree/screelaw14.ManifestGets", spec := "manifestGets", unfollowed := true, recurses := true, apart := false }
def ManifestGetsSaid : Prop := manifestGetsRow.holds Try.pinned (OpenSpec.ofChange manifestGetsSpec)

/-- ITS FALSE NEIGHBOUR: 'it returns false'. Refute it at one input. -/
def manifestGetsWrong : ChangeSpec := { name := "manifestGets", fn := fun _ => fun
  | [d] => { results := [.lit (.bool false)], args := [d] }
  | _ => none }
def ManifestGetsWrongFalsely : Prop := manifestGetsRow.holds Try.pinned (OpenSpec.ofChange manifestGetsWrong)

/-- 'screelaw14.ManifestBack': WHATEVER THE INPUT: true; the input reads as it did. -/
def manifestBackSpec : ChangeSpec := { name := "manifestBack", fn := fun _ => fun
  | [d1, d2] => { results := [.lit (.bool true)], args := [d1, d2] }
  | _ => none }
def manifestBackRow : OpenClaim := { program := "ytblghgacokoklaa", sum := "87f580b2bb372a171cef5018b65b354d012dbed68b8889492463325fc20770a6", func := "scree/screelaw14.ManifestBack", spec := "manifestBack", unfollowed := true, recurses := true, apart := false }
def ManifestBackSaid : Prop := manifestBackRow.holds Try.pinned (OpenSpec.ofChange manifestBackSpec)

/-- ITS FALSE NEIGHBOUR: 'it returns false'. Refute it at one input. -/
def manifestBackWrong : ChangeSpec := { name := "manifestBack", fn := fun _ => fun
  | [d1, d2] => { results := [.lit (.bool false)], args := [d1, d2] }
  | _ => none }
def ManifestBackWrongFalsely : Prop := manifestBackRow.holds Try.pinned (OpenSpec.ofChange manifestBackWrong)

/-- 'screelaw14.ManifestForm': WHATEVER THE INPUT: true; the input reads as it did. -/
def manifestFormSpec : ChangeSpec := { name := "manifestForm", fn := fun _ => fun
  | [d] => { results := [.lit (.bool true)], args := [d] }
  | _ => none }
def manifestFormRow : OpenClaim := { program := "ytblghgacokoklaa", sum := "87f580b2bb372a171cef5018b65b354d012dbed68b8889492463325fc20770a6", func := "scree/screelaw14.ManifestForm", spec := "manifestForm", unfollowed := true, recurses := true, apart := false }
def ManifestFormSaid : Prop := manifestFormRow.holds Try.pinned (OpenSpec.ofChange manifestFormSpec)

/-- ITS FALSE NEIGHBOUR: 'it returns false'. Refute it at one input. -/
def manifestFormWrong : ChangeSpec := { name := "manifestForm", fn := fun _ => fun
  | [d] => { results := [.lit (.bool false)], args := [d] }
  | _ => none }
def ManifestFormWrongFalsely : Prop := manifestFormRow.holds Try.pinned (OpenSpec.ofChange manifestFormWrong)

/-- 'screelaw14.ManifestWhole': WHATEVER THE INPUT: true; the input reads as it did. -/
def manifestWholeSpec : ChangeSpec := { name := "manifestWhole", fn := fun _ => fun
  | [d1, d2, d3] => { results := [.lit (.bool true)], args := [d1, d2, d3] }
  | _ => none }
def manifestWholeRow : OpenClaim := { program := "ytblghgacokoklaa", sum := "87f580b2bb372a171cef5018b65b354d012dbed68b8889492463325fc20770a6", func := "scree/screelaw14.ManifestWhole", spec := "manifestWhole", inPlace := ["internal/bytealg.abigen_runtime_cmpstring"], unfollowed := true, recurses := true, apart := false }
def ManifestWholeSaid : Prop := manifestWholeRow.holds Try.pinned (OpenSpec.ofChange manifestWholeSpec)

/-- ITS FALSE NEIGHBOUR: 'it returns false'. Refute it at one input. -/
def manifestWholeWrong : ChangeSpec := { name := "manifestWhole", fn := fun _ => fun
  | [d1, d2, d3] => { results := [.lit (.bool false)], args := [d1, d2, d3] }
  | _ => none }
def ManifestWholeWrongFalsely : Prop := manifestWholeRow.holds Try.pinned (OpenSpec.ofChange manifestWholeWrong)

/- THE SECOND FORM. 'bulk': how many values and letters a reading holds, each counted each time it is reached (what is shared counts as often as it is met; a slice's spare places count too). A statement '..UptoSaid' is the law's where the arguments, and the package variables that the reading takes, are together of bulk at most 1048576: NARROWER than '..Said'. Prove '..Said' where nothing that the law and all that it calls make is longer than what came in: it says more and counts as full. Else prove '..UptoSaid'. A law counts once. -/
mutual
def uptoBulk {H : Type} : DataW H → Nat
  | .lit (.string bytes) => bytes.length + 1
  | .lit _ => 1
  | .nil => 1
  | .ptr d => uptoBulk d + 1
  | .slice elems spare => uptoBulkAll elems + uptoBulkAll spare + 1
  | .agg parts => uptoBulkAll parts + 1
  | .iface _ d => uptoBulk d + 1
  | .map entries => uptoBulkEntries entries + 1
  | .held _ => 1
def uptoBulkAll {H : Type} : List (DataW H) → Nat
  | [] => 0
  | d :: r => uptoBulk d + uptoBulkAll r
def uptoBulkEntries {H : Type} : List (Lit × DataW H) → Nat
  | [] => 0
  | x :: r => uptoBulkEntry x + uptoBulkEntries r
def uptoBulkEntry {H : Type} : Lit × DataW H → Nat
  | (.string bytes, d) => bytes.length + uptoBulk d + 1
  | (_, d) => uptoBulk d + 1
 end
def uptoSmall : (H : Type) → List (DataW H) → Bool := fun _ ds => decide (uptoBulkAll ds ≤ 1048576)
def OpenSpec.upto (s : _root_.Go.ChangeSpec) : _root_.Go.OpenSpec := { _root_.Go.OpenSpec.ofChange s with cond := some uptoSmall }

/-- 'screelaw14.ManifestNumbers', WHERE WHAT IT READS IS OF BULK AT MOST 1048576: true; the input reads as it did. -/
def manifestNumbersUptoRow : OpenClaim := { program := "ytblghgacokoklaa", sum := "87f580b2bb372a171cef5018b65b354d012dbed68b8889492463325fc20770a6", func := "scree/screelaw14.ManifestNumbers", spec := "manifestNumbers", apart := false, narrowed := true }
def ManifestNumbersUptoSaid : Prop := manifestNumbersUptoRow.holds Try.pinned (OpenSpec.upto manifestNumbersSpec)

/-- 'screelaw14.ManifestGets', WHERE WHAT IT READS IS OF BULK AT MOST 1048576: true; the input reads as it did. -/
def manifestGetsUptoRow : OpenClaim := { program := "ytblghgacokoklaa", sum := "87f580b2bb372a171cef5018b65b354d012dbed68b8889492463325fc20770a6", func := "scree/screelaw14.ManifestGets", spec := "manifestGets", unfollowed := true, recurses := true, apart := false, narrowed := true }
def ManifestGetsUptoSaid : Prop := manifestGetsUptoRow.holds Try.pinned (OpenSpec.upto manifestGetsSpec)

/-- 'screelaw14.ManifestBack', WHERE WHAT IT READS IS OF BULK AT MOST 1048576: true; the input reads as it did. -/
def manifestBackUptoRow : OpenClaim := { program := "ytblghgacokoklaa", sum := "87f580b2bb372a171cef5018b65b354d012dbed68b8889492463325fc20770a6", func := "scree/screelaw14.ManifestBack", spec := "manifestBack", unfollowed := true, recurses := true, apart := false, narrowed := true }
def ManifestBackUptoSaid : Prop := manifestBackUptoRow.holds Try.pinned (OpenSpec.upto manifestBackSpec)

/-- 'screelaw14.ManifestForm', WHERE WHAT IT READS IS OF BULK AT MOST 1048576: true; the input reads as it did. -/
def manifestFormUptoRow : OpenClaim := { program := "ytblghgacokoklaa", sum := "87f580b2bb372a171cef5018b65b354d012dbed68b8889492463325fc20770a6", func := "scree/screelaw14.ManifestForm", spec := "manifestForm", unfollowed := true, recurses := true, apart := false, narrowed := true }
def ManifestFormUptoSaid : Prop := manifestFormUptoRow.holds Try.pinned (OpenSpec.upto manifestFormSpec)

/-- 'screelaw14.ManifestWhole', WHERE WHAT IT READS IS OF BULK AT MOST 1048576: true; the input reads as it did. -/
def manifestWholeUptoRow : OpenClaim := { program := "ytblghgacokoklaa", sum := "87f580b2bb372a171cef5018b65b354d012dbed68b8889492463325fc20770a6", func := "scree/screelaw14.ManifestWhole", spec := "manifestWhole", inPlace := ["internal/bytealg.abigen_runtime_cmpstring"], unfollowed := true, recurses := true, apart := false, narrowed := true }
def ManifestWholeUptoSaid : Prop := manifestWholeUptoRow.holds Try.pinned (OpenSpec.upto manifestWholeSpec)

end Rows
end Go.Proofs.Ytblghgacokoklaa
