/-
  No cell of these rows narrows 'for every input' (looked for: loops, veiled, ifaces, maps, wideKeys, modest, calm, conditions, laid).
  DERIVED. THE GIVEN ROWS OF THIS SEAT. 3 by the template 'for every input the law returns true; each argument reads behind the call as it read before'; 0 by the template 'total and deterministic' (their statements: YtmafnjidhjabgaaTotals.lean).
  GIVEN WITH THE SEED: the statements are not yours to turn. If you find one false, say at which input.
  Laid BY PROGRAM, IN A SANDBOX (cutbox-rows.mjs): the forced cells as the released guide's own fill.sh prints them over the translation e81ecd586de4d0e2… (all of the seat's roots in one cut). By AI agents, Wed Nov 11 2026. No macro, syntax, notation, axiom, sorry.
-/
import Derived.Test.YtmafnjidhjabgaaChecked
import GoSem.Claim
import GoSem.ClaimJoined
import GoSem.ClaimMapViews
import Derived.JoinedTies
import Derived.KernelRfl
namespace Go.Proofs.Ytmafnjidhjabgaa
/- THE CELL 'sum', in the pinned program and in every row, IS THE sha256 OF THE DUMP (.gsa) THAT YtmafnjidhjabgaaProg.lean LOADS. Nothing in Lean hashes anything: it is a label: what it is worth is what the hold of that sum in a sandbox is worth. -/
noncomputable def Try.pinned : Pinned := { name := "ytmafnjidhjabgaa", sum := "e81ecd586de4d0e2bdf39628cf3bb155d337cccee4795b8eea8b04525208d98e", checked := Try.checked }
namespace Rows
def none {H : Type} : Left H := { results := [], args := [] }

/-- 'millracelaw22.CowtreeRanges': WHATEVER THE INPUT: true; the input reads as it did. -/
def cowtreeRangesSpec : ChangeSpec := { name := "cowtreeRanges", fn := fun _ => fun
  | [d1, d2, d3] => { results := [.lit (.bool true)], args := [d1, d2, d3] }
  | _ => none }
def cowtreeRangesRow : OpenClaim := { program := "ytmafnjidhjabgaa", sum := "e81ecd586de4d0e2bdf39628cf3bb155d337cccee4795b8eea8b04525208d98e", func := "millrace/millracelaw22.CowtreeRanges", spec := "cowtreeRanges", inPlace := ["slices.overlaps[string]", "slices.overlaps[*millrace/cowtree.node]"], unfollowed := true, recurses := true, apart := false }
def CowtreeRangesSaid : Prop := cowtreeRangesRow.holds Try.pinned (OpenSpec.ofChange cowtreeRangesSpec)

/-- ITS FALSE NEIGHBOUR: 'it returns false'. Refute it at one input. -/
def cowtreeRangesWrong : ChangeSpec := { name := "cowtreeRanges", fn := fun _ => fun
  | [d1, d2, d3] => { results := [.lit (.bool false)], args := [d1, d2, d3] }
  | _ => none }
def CowtreeRangesWrongFalsely : Prop := cowtreeRangesRow.holds Try.pinned (OpenSpec.ofChange cowtreeRangesWrong)

/-- 'millracelaw22.CowtreeShape': WHATEVER THE INPUT: true; the input reads as it did. -/
def cowtreeShapeSpec : ChangeSpec := { name := "cowtreeShape", fn := fun _ => fun
  | [d1, d2] => { results := [.lit (.bool true)], args := [d1, d2] }
  | _ => none }
def cowtreeShapeRow : OpenClaim := { program := "ytmafnjidhjabgaa", sum := "e81ecd586de4d0e2bdf39628cf3bb155d337cccee4795b8eea8b04525208d98e", func := "millrace/millracelaw22.CowtreeShape", spec := "cowtreeShape", inPlace := ["slices.overlaps[string]", "slices.overlaps[*millrace/cowtree.node]"], unfollowed := true, recurses := true, apart := false }
def CowtreeShapeSaid : Prop := cowtreeShapeRow.holds Try.pinned (OpenSpec.ofChange cowtreeShapeSpec)

/-- ITS FALSE NEIGHBOUR: 'it returns false'. Refute it at one input. -/
def cowtreeShapeWrong : ChangeSpec := { name := "cowtreeShape", fn := fun _ => fun
  | [d1, d2] => { results := [.lit (.bool false)], args := [d1, d2] }
  | _ => none }
def CowtreeShapeWrongFalsely : Prop := cowtreeShapeRow.holds Try.pinned (OpenSpec.ofChange cowtreeShapeWrong)

/-- 'millracelaw22.CowtreeFiles': WHATEVER THE INPUT: true; the input reads as it did. -/
def cowtreeFilesSpec : ChangeSpec := { name := "cowtreeFiles", fn := fun _ => fun
  | [d1, d2] => { results := [.lit (.bool true)], args := [d1, d2] }
  | _ => none }
def cowtreeFilesRow : OpenClaim := { program := "ytmafnjidhjabgaa", sum := "e81ecd586de4d0e2bdf39628cf3bb155d337cccee4795b8eea8b04525208d98e", func := "millrace/millracelaw22.CowtreeFiles", spec := "cowtreeFiles", inPlace := ["slices.overlaps[string]", "slices.overlaps[*millrace/cowtree.node]"], unfollowed := true, recurses := true, apart := false }
def CowtreeFilesSaid : Prop := cowtreeFilesRow.holds Try.pinned (OpenSpec.ofChange cowtreeFilesSpec)

/-- ITS FALSE NEIGHBOUR: 'it returns false'. Refute it at one input. -/
def cowtreeFilesWrong : ChangeSpec := { name := "cowtreeFiles", fn := fun _ => fun
  | [d1, d2] => { results := [.lit (.bool false)], args := [d1, d2] }
  | _ => none }
def CowtreeFilesWrongFalsely : Prop := cowtreeFilesRow.holds Try.pinned (OpenSpec.ofChange cowtreeFilesWrong)

/- THE SECOND FORM. 'bulk': how many values and letters a reading holds, each counted each time it is reached (what is shared counts as often as it is met; a slice's spare places count too). A statement '..UptoSaid' is the law's where the arguments, and the package variables that the reading takes, are together of bulk at most 1048576: NARROWER than '..Said'. Prove '..Said' where nothing that the law and all that it calls make is longer than what came in: it says more and counts as full. Else prove '..UptoSaid'. A law counts once. -/
mutual
def uptoBulk {H : Type} : DataW H → Nat
  | .lit (.string bytes) => bytes.length + 1
  | .lit _ => 1
  | .nil => 1
  | .ptr d => uptoBulk d + 1
  | .slice elems spare => uptoBulkAll elems + uptoBulkAll spare + 1
  | .agg parts => uptoBulkAll parts + 1
  | .iface _ d => uptoBulk d + 1
  | .map entries => uptoBulkEntries entries + 1
  | .held _ => 1
def uptoBulkAll {H : Type} : List (DataW H) → Nat
  | [] => 0
  | d :: r => uptoBulk d + uptoBulkAll r
def uptoBulkEntries {H : Type} : List (Lit × DataW H) → Nat
  | [] => 0
  | x :: r => uptoBulkEntry x + uptoBulkEntries r
def uptoBulkEntry {H : Type} : Lit × DataW H → Nat
  | (.string bytes, d) => bytes.length + uptoBulk d + 1
  | (_, d) => uptoBulk d + 1
 end
def uptoSmall : (H : Type) → List (DataW H) → Bool := fun _ ds => decide (uptoBulkAll ds ≤ 1048576)
def OpenSpec.upto (s : _root_.Go.ChangeSpec) : _root_.Go.OpenSpec := { _root_.Go.OpenSpec.ofChange s with cond := some uptoSmall }

/-- 'millracelaw22.CowtreeRanges', WHERE WHAT IT READS IS OF BULK AT MOST 1048576: true; the input reads as it did. -/
def cowtreeRangesUptoRow : OpenClaim := { program := "ytmafnjidhjabgaa", sum := "e81ecd586de4d0e2bdf39628cf3bb155d337cccee4795b8eea8b04525208d98e", func := "millrace/millracelaw22.CowtreeRanges", spec := "cowtreeRanges", inPlace := ["slices.overlaps[string]", "slices.overlaps[*millrace/cowtree.node]"], unfollowed := true, recurses := true, apart := false, narrowed := true }
def CowtreeRangesUptoSaid : Prop := cowtreeRangesUptoRow.holds Try.pinned (OpenSpec.upto cowtreeRangesSpec)

/-- 'millracelaw22.CowtreeShape', WHERE WHAT IT READS IS OF BULK AT MOST 1048576: true; the input reads as it did. -/
def cowtreeShapeUptoRow : OpenClaim := { program := "ytmafnjidhjabgaa", sum := "e81ecd586de4d0e2bdf39628cf3bb155d337cccee4795b8eea8b04525208d98e", func := "millrace/millracelaw22.CowtreeShape", spec := "cowtreeShape", inPlace := ["slices.overlaps[string]", "slices.overlaps[*millrace/cowtree.node]"], unfollowed := true, recurses := true, apart := false, narrowed := true }
def CowtreeShapeUptoSaid : Prop := cowtreeShapeUptoRow.holds Try.pinned (OpenSpec.upto cowtreeShapeSpec)

/-- 'millracelaw22.CowtreeFiles', WHERE WHAT IT READS IS OF BULK AT MOST 1048576: true; the input reads as it did. -/
def cowtreeFilesUptoRow : OpenClaim := { program := "ytmafnjidhjabgaa", sum := "e81ecd586de4d0e2bdf39628cf3bb155d337cccee4795b8eea8b04525208d98e", func := "millrace/millracelaw22.CowtreeFiles", spec := "cowtreeFiles", inPlace := ["slices.overlaps[string]", "slices.overlaps[*millrace/cowtree.node]"], unfollowed := true, recurses := true, apart := false, narrowed := true }
def CowtreeFilesUptoSaid : Prop := cowtreeFilesUptoRow.holds Try.pinned (OpenSpec.upto cowtreeFilesSpec)

end Rows
end Go.Proofs.Ytmafnjidhjabgaa
