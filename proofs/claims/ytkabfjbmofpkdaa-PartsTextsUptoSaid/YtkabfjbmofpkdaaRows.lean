/-
  No cell of these rows narrows 'for every input' (looked for: loops, veiled, ifaces, maps, wideKeys, modest, calm, conditions, laid).
  DERIVED. THE GIVEN ROWS OF THIS SEAT. 7 by the template 'for every input the law returns true; each argument reads behind the call as it read before'; 0 by the template 'total and deterministic' (their statements: YtkabfjbmofpkdaaTotals.lean).
  GIVEN WITH THE SEED: the statements are not yours to turn. If you find one false, say at which input.
  Laid BY PROGRAM, IN A SANDBOX (cutbox-rows.mjs): the forced cells as the released guide's own fill.sh prints them over the translation 1aa9c83c7e65b4b1… (all of the seat's roots in one cut). By AI agents, Wed Nov 11 2026. No macro, syntax, notation, axiom, sorry.
-/
import Derived.Test.YtkabfjbmofpkdaaChecked
import GoSem.Claim
import GoSem.ClaimJoined
import GoSem.ClaimMapViews
import Derived.JoinedTies
import Derived.KernelRfl
namespace Go.Proofs.Ytkabfjbmofpkdaa
/- THE CELL 'sum', in the pinned program and in every row, IS THE sha256 OF THE DUMP (.gsa) THAT YtkabfjbmofpkdaaProg.lean LOADS. Nothing in Lean hashes anything: it is a label: what it is worth is what the hold of that sum in a sandbox is worth. -/
noncomputable def Try.pinned : Pinned := { name := "ytkabfjbmofpkdaa", sum := "1aa9c83c7e65b4b11a814d17a99bb542b8d3c1b3d8bcf87a649792199ca74518", checked := Try.checked }
namespace Rows
def none {H : Type} : Left H := { results := [], args := [] }

/-- 'millracelaw14.PartsApplies': WHATEVER THE INPUT: true; the input reads as it did. -/
def partsAppliesSpec : ChangeSpec := { name := "partsApplies", fn := fun _ => fun
  | [d1, d2] => { results := [.lit (.bool true)], args := [d1, d2] }
  | _ => none }
def partsAppliesRow : OpenClaim := { program := "ytkabfjbmofpkdaa", sum := "1aa9c83c7e65b4b11a814d17a99bb542b8d3c1b3d8bcf87a649792199ca74518", func := "millrace/millracelaw14.PartsApplies", spec := "partsApplies", inPlace := ["slices.overlaps[millrace/api.Row]"], unfollowed := true, recurses := true, apart := false }
def PartsAppliesSaid : Prop := partsAppliesRow.holds Try.pinned (OpenSpec.ofChange partsAppliesSpec)

/-- ITS FALSE NEIGHBOUR: 'it returns false'. Refute it at one input. -/
def partsAppliesWrong : ChangeSpec := { name := "partsApplies", fn := fun _ => fun
  | [d1, d2] => { results := [.lit (.bool false)], args := [d1, d2] }
  | _ => none }
def PartsAppliesWrongFalsely : Prop := partsAppliesRow.holds Try.pinned (OpenSpec.ofChange partsAppliesWrong)

/-- 'millracelaw14.PartsKeeps': WHATEVER THE INPUT: true; the input reads as it did. -/
def partsKeepsSpec : ChangeSpec := { name := "partsKeeps", fn := fun _ => fun
  | [d1, d2] => { results := [.lit (.bool true)], args := [d1, d2] }
  | _ => none }
def partsKeepsRow : OpenClaim := { program := "ytkabfjbmofpkdaa", sum := "1aa9c83c7e65b4b11a814d17a99bb542b8d3c1b3d8bcf87a649792199ca74518", func := "millrace/millracelaw14.PartsKeeps", spec := "partsKeeps", inPlace := ["slices.overlaps[millrace/api.Row]"], unfollowed := true, recurses := true, apart := false }
def PartsKeepsSaid : Prop := partsKeepsRow.holds Try.pinned (OpenSpec.ofChange partsKeepsSpec)

/-- ITS FALSE NEIGHBOUR: 'it returns false'. Refute it at one input. -/
def partsKeepsWrong : ChangeSpec := { name := "partsKeeps", fn := fun _ => fun
  | [d1, d2] => { results := [.lit (.bool false)], args := [d1, d2] }
  | _ => none }
def PartsKeepsWrongFalsely : Prop := partsKeepsRow.holds Try.pinned (OpenSpec.ofChange partsKeepsWrong)

/-- 'millracelaw14.PartsOnce': WHATEVER THE INPUT: true; the input reads as it did. -/
def partsOnceSpec : ChangeSpec := { name := "partsOnce", fn := fun _ => fun
  | [d] => { results := [.lit (.bool true)], args := [d] }
  | _ => none }
def partsOnceRow : OpenClaim := { program := "ytkabfjbmofpkdaa", sum := "1aa9c83c7e65b4b11a814d17a99bb542b8d3c1b3d8bcf87a649792199ca74518", func := "millrace/millracelaw14.PartsOnce", spec := "partsOnce", inPlace := ["slices.overlaps[millrace/api.Row]"], unfollowed := true, recurses := true, apart := false }
def PartsOnceSaid : Prop := partsOnceRow.holds Try.pinned (OpenSpec.ofChange partsOnceSpec)

/-- ITS FALSE NEIGHBOUR: 'it returns false'. Refute it at one input. -/
def partsOnceWrong : ChangeSpec := { name := "partsOnce", fn := fun _ => fun
  | [d] => { results := [.lit (.bool false)], args := [d] }
  | _ => none }
def PartsOnceWrongFalsely : Prop := partsOnceRow.holds Try.pinned (OpenSpec.ofChange partsOnceWrong)

/-- 'millracelaw14.PartsPieces': WHATEVER THE INPUT: true; the input reads as it did. -/
def partsPiecesSpec : ChangeSpec := { name := "partsPieces", fn := fun _ => fun
  | [d1, d2, d3] => { results := [.lit (.bool true)], args := [d1, d2, d3] }
  | _ => none }
def partsPiecesRow : OpenClaim := { program := "ytkabfjbmofpkdaa", sum := "1aa9c83c7e65b4b11a814d17a99bb542b8d3c1b3d8bcf87a649792199ca74518", func := "millrace/millracelaw14.PartsPieces", spec := "partsPieces", inPlace := ["slices.overlaps[millrace/api.Row]"], unfollowed := true, recurses := true, apart := false }
def PartsPiecesSaid : Prop := partsPiecesRow.holds Try.pinned (OpenSpec.ofChange partsPiecesSpec)

/-- ITS FALSE NEIGHBOUR: 'it returns false'. Refute it at one input. -/
def partsPiecesWrong : ChangeSpec := { name := "partsPieces", fn := fun _ => fun
  | [d1, d2, d3] => { results := [.lit (.bool false)], args := [d1, d2, d3] }
  | _ => none }
def PartsPiecesWrongFalsely : Prop := partsPiecesRow.holds Try.pinned (OpenSpec.ofChange partsPiecesWrong)

/-- 'millracelaw14.PartsApart': WHATEVER THE INPUT: true; the input reads as it did. -/
def partsApartSpec : ChangeSpec := { name := "partsApart", fn := fun _ => fun
  | [d1, d2, d3] => { results := [.lit (.bool true)], args := [d1, d2, d3] }
  | _ => none }
def partsApartRow : OpenClaim := { program := "ytkabfjbmofpkdaa", sum := "1aa9c83c7e65b4b11a814d17a99bb542b8d3c1b3d8bcf87a649792199ca74518", func := "millrace/millracelaw14.PartsApart", spec := "partsApart", inPlace := ["slices.overlaps[millrace/api.Row]"], unfollowed := true, recurses := true, apart := false }
def PartsApartSaid : Prop := partsApartRow.holds Try.pinned (OpenSpec.ofChange partsApartSpec)

/-- ITS FALSE NEIGHBOUR: 'it returns false'. Refute it at one input. -/
def partsApartWrong : ChangeSpec := { name := "partsApart", fn := fun _ => fun
  | [d1, d2, d3] => { results := [.lit (.bool false)], args := [d1, d2, d3] }
  | _ => none }
def PartsApartWrongFalsely : Prop := partsApartRow.holds Try.pinned (OpenSpec.ofChange partsApartWrong)

/-- 'millracelaw14.PartsReads': WHATEVER THE INPUT: true; the input reads as it did. -/
def partsReadsSpec : ChangeSpec := { name := "partsReads", fn := fun _ => fun
  | [d1, d2, d3] => { results := [.lit (.bool true)], args := [d1, d2, d3] }
  | _ => none }
def partsReadsRow : OpenClaim := { program := "ytkabfjbmofpkdaa", sum := "1aa9c83c7e65b4b11a814d17a99bb542b8d3c1b3d8bcf87a649792199ca74518", func := "millrace/millracelaw14.PartsReads", spec := "partsReads", inPlace := ["slices.overlaps[millrace/api.Row]"], unfollowed := true, recurses := true, apart := false }
def PartsReadsSaid : Prop := partsReadsRow.holds Try.pinned (OpenSpec.ofChange partsReadsSpec)

/-- ITS FALSE NEIGHBOUR: 'it returns false'. Refute it at one input. -/
def partsReadsWrong : ChangeSpec := { name := "partsReads", fn := fun _ => fun
  | [d1, d2, d3] => { results := [.lit (.bool false)], args := [d1, d2, d3] }
  | _ => none }
def PartsReadsWrongFalsely : Prop := partsReadsRow.holds Try.pinned (OpenSpec.ofChange partsReadsWrong)

/-- 'millracelaw14.PartsTexts': WHATEVER THE INPUT: true; the input reads as it did. -/
def partsTextsSpec : ChangeSpec := { name := "partsTexts", fn := fun _ => fun
  | [d1, d2] => { results := [.lit (.bool true)], args := [d1, d2] }
  | _ => none }
def partsTextsRow : OpenClaim := { program := "ytkabfjbmofpkdaa", sum := "1aa9c83c7e65b4b11a814d17a99bb542b8d3c1b3d8bcf87a649792199ca74518", func := "millrace/millracelaw14.PartsTexts", spec := "partsTexts", inPlace := ["slices.overlaps[millrace/api.Row]"], unfollowed := true, recurses := true, apart := false }
def PartsTextsSaid : Prop := partsTextsRow.holds Try.pinned (OpenSpec.ofChange partsTextsSpec)

/-- ITS FALSE NEIGHBOUR: 'it returns false'. Refute it at one input. -/
def partsTextsWrong : ChangeSpec := { name := "partsTexts", fn := fun _ => fun
  | [d1, d2] => { results := [.lit (.bool false)], args := [d1, d2] }
  | _ => none }
def PartsTextsWrongFalsely : Prop := partsTextsRow.holds Try.pinned (OpenSpec.ofChange partsTextsWrong)

/- THE SECOND FORM. 'bulk': how many values and letters a reading holds, each counted each time it is reached (what is shared counts as often as it is met; a slice's spare places count too). A statement '..UptoSaid' is the law's where the arguments, and the package variables that the reading takes, are together of bulk at most 1048576: NARROWER than '..Said'. Prove '..Said' where nothing that the law and all that it calls make is longer than what came in: it says more and counts as full. Else prove '..UptoSaid'. A law counts once. -/
mutual
def uptoBulk {H : Type} : DataW H → Nat
  | .lit (.string bytes) => bytes.length + 1
  | .lit _ => 1
  | .nil => 1
  | .ptr d => uptoBulk d + 1
  | .slice elems spare => uptoBulkAll elems + uptoBulkAll spare + 1
  | .agg parts => uptoBulkAll parts + 1
  | .iface _ d => uptoBulk d + 1
  | .map entries => uptoBulkEntries entries + 1
  | .held _ => 1
def uptoBulkAll {H : Type} : List (DataW H) → Nat
  | [] => 0
  | d :: r => uptoBulk d + uptoBulkAll r
def uptoBulkEntries {H : Type} : List (Lit × DataW H) → Nat
  | [] => 0
  | x :: r => uptoBulkEntry x + uptoBulkEntries r
def uptoBulkEntry {H : Type} : Lit × DataW H → Nat
  | (.string bytes, d) => bytes.length + uptoBulk d + 1
  | (_, d) => uptoBulk d + 1
 end
def uptoSmall : (H : Type) → List (DataW H) → Bool := fun _ ds => decide (uptoBulkAll ds ≤ 1048576)
def OpenSpec.upto (s : _root_.Go.ChangeSpec) : _root_.Go.OpenSpec := { _root_.Go.OpenSpec.ofChange s with cond := some uptoSmall }

/-- 'millracelaw14.PartsApplies', WHERE WHAT IT READS IS OF BULK AT MOST 1048576: true; the input reads as it did. -/
def partsAppliesUptoRow : OpenClaim := { program := "ytkabfjbmofpkdaa", sum := "1aa9c83c7e65b4b11a814d17a99bb542b8d3c1b3d8bcf87a649792199ca74518", func := "millrace/millracelaw14.PartsApplies", spec := "partsApplies", inPlace := ["slices.overlaps[millrace/api.Row]"], unfollowed := true, recurses := true, apart := false, narrowed := true }
def PartsAppliesUptoSaid : Prop := partsAppliesUptoRow.holds Try.pinned (OpenSpec.upto partsAppliesSpec)

/-- 'millracelaw14.PartsKeeps', WHERE WHAT IT READS IS OF BULK AT MOST 1048576: true; the input reads as it did. -/
def partsKeepsUptoRow : OpenClaim := { program := "ytkabfjbmofpkdaa", sum := "1aa9c83c7e65b4b11a814d17a99bb542b8d3c1b3d8bcf87a649792199ca74518", func := "millrace/millracelaw14.PartsKeeps", spec := "partsKeeps", inPlace := ["slices.overlaps[millrace/api.Row]"], unfollowed := true, recurses := true, apart := false, narrowed := true }
def PartsKeepsUptoSaid : Prop := partsKeepsUptoRow.holds Try.pinned (OpenSpec.upto partsKeepsSpec)

/-- 'millracelaw14.PartsOnce', WHERE WHAT IT READS IS OF BULK AT MOST 1048576: true; the input reads as it did. -/
def partsOnceUptoRow : OpenClaim := { program := "ytkabfjbmofpkdaa", sum := "1aa9c83c7e65b4b11a814d17a99bb542b8d3c1b3d8bcf87a649792199ca74518", func := "millrace/millracelaw14.PartsOnce", spec := "partsOnce", inPlace := ["slices.overlaps[millrace/api.Row]"], unfollowed := true, recurses := true, apart := false, narrowed := true }
def PartsOnceUptoSaid : Prop := partsOnceUptoRow.holds Try.pinned (OpenSpec.upto partsOnceSpec)

/-- 'millracelaw14.PartsPieces', WHERE WHAT IT READS IS OF BULK AT MOST 1048576: true; the input reads as it did. -/
def partsPiecesUptoRow : OpenClaim := { program := "ytkabfjbmofpkdaa", sum := "1aa9c83c7e65b4b11a814d17a99bb542b8d3c1b3d8bcf87a649792199ca74518", func := "millrace/millracelaw14.PartsPieces", spec := "partsPieces", inPlace := ["slices.overlaps[millrace/api.Row]"], unfollowed := true, recurses := true, apart := false, narrowed := true }
def PartsPiecesUptoSaid : Prop := partsPiecesUptoRow.holds Try.pinned (OpenSpec.upto partsPiecesSpec)

/-- 'millracelaw14.PartsApart', WHERE WHAT IT READS IS OF BULK AT MOST 1048576: true; the input reads as it did. -/
def partsApartUptoRow : OpenClaim := { program := "ytkabfjbmofpkdaa", sum := "1aa9c83c7e65b4b11a814d17a99bb542b8d3c1b3d8bcf87a649792199ca74518", func := "millrace/millracelaw14.PartsApart", spec := "partsApart", inPlace := ["slices.overlaps[millrace/api.Row]"], unfollowed := true, recurses := true, apart := false, narrowed := true }
def PartsApartUptoSaid : Prop := partsApartUptoRow.holds Try.pinned (OpenSpec.upto partsApartSpec)

/-- 'millracelaw14.PartsReads', WHERE WHAT IT READS IS OF BULK AT MOST 1048576: true; the input reads as it did. -/
def partsReadsUptoRow : OpenClaim := { program := "ytkabfjbmofpkdaa", sum := "1aa9c83c7e65b4b11a814d17a99bb542b8d3c1b3d8bcf87a649792199ca74518", func := "millrace/millracelaw14.PartsReads", spec := "partsReads", inPlace := ["slices.overlaps[millrace/api.Row]"], unfollowed := true, recurses := true, apart := false, narrowed := true }
def PartsReadsUptoSaid : Prop := partsReadsUptoRow.holds Try.pinned (OpenSpec.upto partsReadsSpec)

/-- 'millracelaw14.PartsTexts', WHERE WHAT IT READS IS OF BULK AT MOST 1048576: true; the input reads as it did. -/
def partsTextsUptoRow : OpenClaim := { program := "ytkabfjbmofpkdaa", sum := "1aa9c83c7e65b4b11a814d17a99bb542b8d3c1b3d8bcf87a649792199ca74518", func := "millrace/millracelaw14.PartsTexts", spec := "partsTexts", inPlace := ["slices.overlaps[millrace/api.Row]"], unfollowed := true, recurses := true, apart := false, narrowed := true }
def PartsTextsUptoSaid : Prop := partsTextsUptoRow.holds Try.pinned (OpenSpec.upto partsTextsSpec)

end Rows
end Go.Proofs.Ytkabfjbmofpkdaa
