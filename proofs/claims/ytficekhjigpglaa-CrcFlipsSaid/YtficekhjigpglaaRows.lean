/-
  No cell of these rows narrows 'for every input' (looked for: loops, veiled, ifaces, maps, wideKeys, modest, calm, conditions, laid).
  DERIVED. THE GIVEN ROWS OF THIS SEAT. 6 by the template 'for every input the law returns true; each argument reads behind the call as it read before'; 0 by the template 'total and deterministic' (their statements: YtficekhjigpglaaTotals.lean).
  GIVEN WITH THE SEED: the statements are not yours to turn. If you find one false, say at which input.
  Laid BY PROGRAM, IN A SANDBOX (cutbox-rows.mjs): the forced cells as the released guide's own fill.sh prints them over the translation e8f6a2b5246eb1a1… (all of the seat's roots in one cut). By AI agents, Wed Nov 11 2026. No macro, syntax, notation, axiom, sorry.
-/
import Derived.Test.YtficekhjigpglaaChecked
import GoSem.Claim
import GoSem.ClaimJoined
import GoSem.ClaimMapViews
import Derived.JoinedTies
import Derived.KernelRfl
namespace Go.Proofs.Ytficekhjigpglaa
/- THE CELL 'sum', in the pinned program and in every row, IS THE sha256 OF THE DUMP (.gsa) THAT YtficekhjigpglaaProg.lean LOADS. Nothing in Lean hashes anything: it is a label: what it is worth is what the hold of that sum in a sandbox is worth. -/
noncomputable def Try.pinned : Pinned := { name := "ytficekhjigpglaa", sum := "e8f6a2b5246eb1a1a2bfd24be6ab4da75ce40651f7de2a6a8c7993653ee5026a", checked := Try.checked }
namespace Rows
def none {H : Type} : Left H := { results := [], args := [] }

/-- 'millracelaw01.CrcSums': WHATEVER THE INPUT: true; the input reads as it did. -/
def crcSumsSpec : ChangeSpec := { name := "crcSums", fn := fun _ => fun
  | [d1, d2] => { results := [.lit (.bool true)], args := [d1, d2] }
  | _ => none }
def crcSumsRow : OpenClaim := { program := "ytficekhjigpglaa", sum := "e8f6a2b5246eb1a1a2bfd24be6ab4da75ce40651f7de2a6a8c7993653ee5026a", func := "millrace/millracelaw01.CrcSums", spec := "crcSums", unfollowed := true, recurses := true, apart := false }
def CrcSumsSaid : Prop := crcSumsRow.holds Try.pinned (OpenSpec.ofChange crcSumsSpec)

/-- ITS FALSE NEIGHBOUR: 'it returns false'. Refute it at one input. -/
def crcSumsWrong : ChangeSpec := { name := "crcSums", fn := fun _ => fun
  | [d1, d2] => { results := [.lit (.bool false)], args := [d1, d2] }
  | _ => none }
def CrcSumsWrongFalsely : Prop := crcSumsRow.holds Try.pinned (OpenSpec.ofChange crcSumsWrong)

/-- 'millracelaw01.CrcExtends': WHATEVER THE INPUT: true; the input reads as it did. -/
def crcExtendsSpec : ChangeSpec := { name := "crcExtends", fn := fun _ => fun
  | [d1, d2] => { results := [.lit (.bool true)], args := [d1, d2] }
  | _ => none }
def crcExtendsRow : OpenClaim := { program := "ytficekhjigpglaa", sum := "e8f6a2b5246eb1a1a2bfd24be6ab4da75ce40651f7de2a6a8c7993653ee5026a", func := "millrace/millracelaw01.CrcExtends", spec := "crcExtends", unfollowed := true, recurses := true, apart := false }
def CrcExtendsSaid : Prop := crcExtendsRow.holds Try.pinned (OpenSpec.ofChange crcExtendsSpec)

/-- ITS FALSE NEIGHBOUR: 'it returns false'. Refute it at one input. -/
def crcExtendsWrong : ChangeSpec := { name := "crcExtends", fn := fun _ => fun
  | [d1, d2] => { results := [.lit (.bool false)], args := [d1, d2] }
  | _ => none }
def CrcExtendsWrongFalsely : Prop := crcExtendsRow.holds Try.pinned (OpenSpec.ofChange crcExtendsWrong)

/-- 'millracelaw01.CrcFlips': WHATEVER THE INPUT: true; the input reads as it did. -/
def crcFlipsSpec : ChangeSpec := { name := "crcFlips", fn := fun _ => fun
  | [d1, d2, d3] => { results := [.lit (.bool true)], args := [d1, d2, d3] }
  | _ => none }
def crcFlipsRow : OpenClaim := { program := "ytficekhjigpglaa", sum := "e8f6a2b5246eb1a1a2bfd24be6ab4da75ce40651f7de2a6a8c7993653ee5026a", func := "millrace/millracelaw01.CrcFlips", spec := "crcFlips", unfollowed := true, recurses := true, apart := false }
def CrcFlipsSaid : Prop := crcFlipsRow.holds Try.pinned (OpenSpec.ofChange crcFlipsSpec)

/-- ITS FALSE NEIGHBOUR: 'it returns false'. Refute it at one input. -/
def crcFlipsWrong : ChangeSpec := { name := "crcFlips", fn := fun _ => fun
  | [d1, d2, d3] => { results := [.lit (.bool false)], args := [d1, d2, d3] }
  | _ => none }
def CrcFlipsWrongFalsely : Prop := crcFlipsRow.holds Try.pinned (OpenSpec.ofChange crcFlipsWrong)

/-- 'millracelaw01.CrcMixes': WHATEVER THE INPUT: true; the input reads as it did. -/
def crcMixesSpec : ChangeSpec := { name := "crcMixes", fn := fun _ => fun
  | [d1, d2, d3] => { results := [.lit (.bool true)], args := [d1, d2, d3] }
  | _ => none }
def crcMixesRow : OpenClaim := { program := "ytficekhjigpglaa", sum := "e8f6a2b5246eb1a1a2bfd24be6ab4da75ce40651f7de2a6a8c7993653ee5026a", func := "millrace/millracelaw01.CrcMixes", spec := "crcMixes", unfollowed := true, recurses := true, apart := false }
def CrcMixesSaid : Prop := crcMixesRow.holds Try.pinned (OpenSpec.ofChange crcMixesSpec)

/-- ITS FALSE NEIGHBOUR: 'it returns false'. Refute it at one input. -/
def crcMixesWrong : ChangeSpec := { name := "crcMixes", fn := fun _ => fun
  | [d1, d2, d3] => { results := [.lit (.bool false)], args := [d1, d2, d3] }
  | _ => none }
def CrcMixesWrongFalsely : Prop := crcMixesRow.holds Try.pinned (OpenSpec.ofChange crcMixesWrong)

/-- 'millracelaw01.CrcKeeps': WHATEVER THE INPUT: true; the input reads as it did. -/
def crcKeepsSpec : ChangeSpec := { name := "crcKeeps", fn := fun _ => fun
  | [d] => { results := [.lit (.bool true)], args := [d] }
  | _ => none }
def crcKeepsRow : OpenClaim := { program := "ytficekhjigpglaa", sum := "e8f6a2b5246eb1a1a2bfd24be6ab4da75ce40651f7de2a6a8c7993653ee5026a", func := "millrace/millracelaw01.CrcKeeps", spec := "crcKeeps", unfollowed := true, recurses := true, apart := false }
def CrcKeepsSaid : Prop := crcKeepsRow.holds Try.pinned (OpenSpec.ofChange crcKeepsSpec)

/-- ITS FALSE NEIGHBOUR: 'it returns false'. Refute it at one input. -/
def crcKeepsWrong : ChangeSpec := { name := "crcKeeps", fn := fun _ => fun
  | [d] => { results := [.lit (.bool false)], args := [d] }
  | _ => none }
def CrcKeepsWrongFalsely : Prop := crcKeepsRow.holds Try.pinned (OpenSpec.ofChange crcKeepsWrong)

/-- 'millracelaw01.CrcSplits': WHATEVER THE INPUT: true; the input reads as it did. -/
def crcSplitsSpec : ChangeSpec := { name := "crcSplits", fn := fun _ => fun
  | [d] => { results := [.lit (.bool true)], args := [d] }
  | _ => none }
def crcSplitsRow : OpenClaim := { program := "ytficekhjigpglaa", sum := "e8f6a2b5246eb1a1a2bfd24be6ab4da75ce40651f7de2a6a8c7993653ee5026a", func := "millrace/millracelaw01.CrcSplits", spec := "crcSplits", unfollowed := true, recurses := true, apart := false }
def CrcSplitsSaid : Prop := crcSplitsRow.holds Try.pinned (OpenSpec.ofChange crcSplitsSpec)

/-- ITS FALSE NEIGHBOUR: 'it returns false'. Refute it at one input. -/
def crcSplitsWrong : ChangeSpec := { name := "crcSplits", fn := fun _ => fun
  | [d] => { results := [.lit (.bool false)], args := [d] }
  | _ => none }
def CrcSplitsWrongFalsely : Prop := crcSplitsRow.holds Try.pinned (OpenSpec.ofChange crcSplitsWrong)

/- THE SECOND FORM. 'bulk': how many values and letters a reading holds, each counted each time it is reached (what is shared counts as often as it is met; a slice's spare places count too). A statement '..UptoSaid' is the law's where the arguments, and the package variables that the reading takes, are together of bulk at most 1048576: NARROWER than '..Said'. Prove '..Said' where nothing that the law and all that it calls make is longer than what came in: it says more and counts as full. Else prove '..UptoSaid'. A law counts once. -/
mutual
def uptoBulk {H : Type} : DataW H → Nat
  | .lit (.string bytes) => bytes.length + 1
  | .lit _ => 1
  | .nil => 1
  | .ptr d => uptoBulk d + 1
  | .slice elems spare => uptoBulkAll elems + uptoBulkAll spare + 1
  | .agg parts => uptoBulkAll parts + 1
  | .iface _ d => uptoBulk d + 1
  | .map entries => uptoBulkEntries entries + 1
  | .held _ => 1
def uptoBulkAll {H : Type} : List (DataW H) → Nat
  | [] => 0
  | d :: r => uptoBulk d + uptoBulkAll r
def uptoBulkEntries {H : Type} : List (Lit × DataW H) → Nat
  | [] => 0
  | x :: r => uptoBulkEntry x + uptoBulkEntries r
def uptoBulkEntry {H : Type} : Lit × DataW H → Nat
  | (.string bytes, d) => bytes.length + uptoBulk d + 1
  | (_, d) => uptoBulk d + 1
 end
def uptoSmall : (H : Type) → List (DataW H) → Bool := fun _ ds => decide (uptoBulkAll ds ≤ 1048576)
def OpenSpec.upto (s : _root_.Go.ChangeSpec) : _root_.Go.OpenSpec := { _root_.Go.OpenSpec.ofChange s with cond := some uptoSmall }

/-- 'millracelaw01.CrcSums', WHERE WHAT IT READS IS OF BULK AT MOST 1048576: true; the input reads as it did. -/
def crcSumsUptoRow : OpenClaim := { program := "ytficekhjigpglaa", sum := "e8f6a2b5246eb1a1a2bfd24be6ab4da75ce40651f7de2a6a8c7993653ee5026a", func := "millrace/millracelaw01.CrcSums", spec := "crcSums", unfollowed := true, recurses := true, apart := false, narrowed := true }
def CrcSumsUptoSaid : Prop := crcSumsUptoRow.holds Try.pinned (OpenSpec.upto crcSumsSpec)

/-- 'millracelaw01.CrcExtends', WHERE WHAT IT READS IS OF BULK AT MOST 1048576: true; the input reads as it did. -/
def crcExtendsUptoRow : OpenClaim := { program := "ytficekhjigpglaa", sum := "e8f6a2b5246eb1a1a2bfd24be6ab4da75ce40651f7de2a6a8c7993653ee5026a", func := "millrace/millracelaw01.CrcExtends", spec := "crcExtends", unfollowed := true, recurses := true, apart := false, narrowed := true }
def CrcExtendsUptoSaid : Prop := crcExtendsUptoRow.holds Try.pinned (OpenSpec.upto crcExtendsSpec)

/-- 'millracelaw01.CrcFlips', WHERE WHAT IT READS IS OF BULK AT MOST 1048576: true; the input reads as it did. -/
def crcFlipsUptoRow : OpenClaim := { program := "ytficekhjigpglaa", sum := "e8f6a2b5246eb1a1a2bfd24be6ab4da75ce40651f7de2a6a8c7993653ee5026a", func := "millrace/millracelaw01.CrcFlips", spec := "crcFlips", unfollowed := true, recurses := true, apart := false, narrowed := true }
def CrcFlipsUptoSaid : Prop := crcFlipsUptoRow.holds Try.pinned (OpenSpec.upto crcFlipsSpec)

/-- 'millracelaw01.CrcMixes', WHERE WHAT IT READS IS OF BULK AT MOST 1048576: true; the input reads as it did. -/
def crcMixesUptoRow : OpenClaim := { program := "ytficekhjigpglaa", sum := "e8f6a2b5246eb1a1a2bfd24be6ab4da75ce40651f7de2a6a8c7993653ee5026a", func := "millrace/millracelaw01.CrcMixes", spec := "crcMixes", unfollowed := true, recurses := true, apart := false, narrowed := true }
def CrcMixesUptoSaid : Prop := crcMixesUptoRow.holds Try.pinned (OpenSpec.upto crcMixesSpec)

/-- 'millracelaw01.CrcKeeps', WHERE WHAT IT READS IS OF BULK AT MOST 1048576: true; the input reads as it did. -/
def crcKeepsUptoRow : OpenClaim := { program := "ytficekhjigpglaa", sum := "e8f6a2b5246eb1a1a2bfd24be6ab4da75ce40651f7de2a6a8c7993653ee5026a", func := "millrace/millracelaw01.CrcKeeps", spec := "crcKeeps", unfollowed := true, recurses := true, apart := false, narrowed := true }
def CrcKeepsUptoSaid : Prop := crcKeepsUptoRow.holds Try.pinned (OpenSpec.upto crcKeepsSpec)

/-- 'millracelaw01.CrcSplits', WHERE WHAT IT READS IS OF BULK AT MOST 1048576: true; the input reads as it did. -/
def crcSplitsUptoRow : OpenClaim := { program := "ytficekhjigpglaa", sum := "e8f6a2b5246eb1a1a2bfd24be6ab4da75ce40651f7de2a6a8c7993653ee5026a", func := "millrace/millracelaw01.CrcSplits", spec := "crcSplits", unfollowed := true, recurses := true, apart := false, narrowed := true }
def CrcSplitsUptoSaid : Prop := crcSplitsUptoRow.holds Try.pinned (OpenSpec.upto crcSplitsSpec)

end Rows
end Go.Proofs.Ytficekhjigpglaa
