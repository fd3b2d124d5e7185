/-
  No cell of these rows narrows 'for every input' (looked for: loops, veiled, ifaces, maps, wideKeys, modest, calm, conditions, laid).
  DERIVED. THE GIVEN ROWS OF THIS SEAT. 7 by the template 'for every input the law returns true; each argument reads behind the call as it read before'; 0 by the template 'total and deterministic' (their statements: YtfmfmalhebfnhaaTotals.lean).
  GIVEN WITH THE SEED: the statements are not yours to turn. If you find one false, say at which input.
  Laid BY PROGRAM, IN A SANDBOX (cutbox-rows.mjs): the forced cells as the released guide's own fill.sh prints them over the translation e818cdb6704d5212… (all of the seat's roots in one cut). By AI agents, Wed Nov 11 2026. No macro, syntax, notation, axiom, sorry.
-/
import Derived.Test.YtfmfmalhebfnhaaChecked
import GoSem.Claim
import GoSem.ClaimJoined
import GoSem.ClaimMapViews
import Derived.JoinedTies
import Derived.KernelRfl
namespace Go.Proofs.Ytfmfmalhebfnhaa
/- THE CELL 'sum', in the pinned program and in every row, IS THE sha256 OF THE DUMP (.gsa) THAT YtfmfmalhebfnhaaProg.lean LOADS. Nothing in Lean hashes anything: it is a label: what it is worth is what the hold of that sum in a sandbox is worth. -/
noncomputable def Try.pinned : Pinned := { name := "ytfmfmalhebfnhaa", sum := "e818cdb6704d521286e2748792233c7a68b1daaf6da43d27ac8eccef8884c14c", checked := Try.checked }
namespace Rows
def none {H : Type} : Left H := { results := [], args := [] }

/-- 'millracelaw02.FramePuts': WHATEVER THE INPUT: true; the input reads as it did. -/
def framePutsSpec : ChangeSpec := { name := "framePuts", fn := fun _ => fun
  | [d] => { results := [.lit (.bool true)], args := [d] }
  | _ => none }
def framePutsRow : OpenClaim := { program := "ytfmfmalhebfnhaa", sum := "e818cdb6704d521286e2748792233c7a68b1daaf6da43d27ac8eccef8884c14c", func := "millrace/millracelaw02.FramePuts", spec := "framePuts", unfollowed := true, recurses := true, apart := false }
def FramePutsSaid : Prop := framePutsRow.holds Try.pinned (OpenSpec.ofChange framePutsSpec)

/-- ITS FALSE NEIGHBOUR: 'it returns false'. Refute it at one input. -/
def framePutsWrong : ChangeSpec := { name := "framePuts", fn := fun _ => fun
  | [d] => { results := [.lit (.bool false)], args := [d] }
  | _ => none }
def FramePutsWrongFalsely : Prop := framePutsRow.holds Try.pinned (OpenSpec.ofChange framePutsWrong)

/-- 'millracelaw02.FrameNexts': WHATEVER THE INPUT: true; the input reads as it did. -/
def frameNextsSpec : ChangeSpec := { name := "frameNexts", fn := fun _ => fun
  | [d1, d2] => { results := [.lit (.bool true)], args := [d1, d2] }
  | _ => none }
def frameNextsRow : OpenClaim := { program := "ytfmfmalhebfnhaa", sum := "e818cdb6704d521286e2748792233c7a68b1daaf6da43d27ac8eccef8884c14c", func := "millrace/millracelaw02.FrameNexts", spec := "frameNexts", unfollowed := true, recurses := true, apart := false }
def FrameNextsSaid : Prop := frameNextsRow.holds Try.pinned (OpenSpec.ofChange frameNextsSpec)

/-- ITS FALSE NEIGHBOUR: 'it returns false'. Refute it at one input. -/
def frameNextsWrong : ChangeSpec := { name := "frameNexts", fn := fun _ => fun
  | [d1, d2] => { results := [.lit (.bool false)], args := [d1, d2] }
  | _ => none }
def FrameNextsWrongFalsely : Prop := frameNextsRow.holds Try.pinned (OpenSpec.ofChange frameNextsWrong)

/-- 'millracelaw02.FrameCuts': WHATEVER THE INPUT: true; the input reads as it did. -/
def frameCutsSpec : ChangeSpec := { name := "frameCuts", fn := fun _ => fun
  | [d1, d2] => { results := [.lit (.bool true)], args := [d1, d2] }
  | _ => none }
def frameCutsRow : OpenClaim := { program := "ytfmfmalhebfnhaa", sum := "e818cdb6704d521286e2748792233c7a68b1daaf6da43d27ac8eccef8884c14c", func := "millrace/millracelaw02.FrameCuts", spec := "frameCuts", unfollowed := true, recurses := true, apart := false }
def FrameCutsSaid : Prop := frameCutsRow.holds Try.pinned (OpenSpec.ofChange frameCutsSpec)

/-- ITS FALSE NEIGHBOUR: 'it returns false'. Refute it at one input. -/
def frameCutsWrong : ChangeSpec := { name := "frameCuts", fn := fun _ => fun
  | [d1, d2] => { results := [.lit (.bool false)], args := [d1, d2] }
  | _ => none }
def FrameCutsWrongFalsely : Prop := frameCutsRow.holds Try.pinned (OpenSpec.ofChange frameCutsWrong)

/-- 'millracelaw02.FrameBack': WHATEVER THE INPUT: true; the input reads as it did. -/
def frameBackSpec : ChangeSpec := { name := "frameBack", fn := fun _ => fun
  | [d1, d2] => { results := [.lit (.bool true)], args := [d1, d2] }
  | _ => none }
def frameBackRow : OpenClaim := { program := "ytfmfmalhebfnhaa", sum := "e818cdb6704d521286e2748792233c7a68b1daaf6da43d27ac8eccef8884c14c", func := "millrace/millracelaw02.FrameBack", spec := "frameBack", unfollowed := true, recurses := true, apart := false }
def FrameBackSaid : Prop := frameBackRow.holds Try.pinned (OpenSpec.ofChange frameBackSpec)

/-- ITS FALSE NEIGHBOUR: 'it returns false'. Refute it at one input. -/
def frameBackWrong : ChangeSpec := { name := "frameBack", fn := fun _ => fun
  | [d1, d2] => { results := [.lit (.bool false)], args := [d1, d2] }
  | _ => none }
def FrameBackWrongFalsely : Prop := frameBackRow.holds Try.pinned (OpenSpec.ofChange frameBackWrong)

/-- 'millracelaw02.FrameFlips': WHATEVER THE INPUT: true; the input reads as it did. -/
def frameFlipsSpec : ChangeSpec := { name := "frameFlips", fn := fun _ => fun
  | [d1, d2, d3] => { results := [.lit (.bool true)], args := [d1, d2, d3] }
  | _ => none }
def frameFlipsRow : OpenClaim := { program := "ytfmfmalhebfnhaa", sum := "e818cdb6704d521286e2748792233c7a68b1daaf6da43d27ac8eccef8884c14c", func := "millrace/millracelaw02.FrameFlips", spec := "frameFlips", unfollowed := true, recurses := true, apart := false }
def FrameFlipsSaid : Prop := frameFlipsRow.holds Try.pinned (OpenSpec.ofChange frameFlipsSpec)

/-- ITS FALSE NEIGHBOUR: 'it returns false'. Refute it at one input. -/
def frameFlipsWrong : ChangeSpec := { name := "frameFlips", fn := fun _ => fun
  | [d1, d2, d3] => { results := [.lit (.bool false)], args := [d1, d2, d3] }
  | _ => none }
def FrameFlipsWrongFalsely : Prop := frameFlipsRow.holds Try.pinned (OpenSpec.ofChange frameFlipsWrong)

/-- 'millracelaw02.FrameKeeps': WHATEVER THE INPUT: true; the input reads as it did. -/
def frameKeepsSpec : ChangeSpec := { name := "frameKeeps", fn := fun _ => fun
  | [d] => { results := [.lit (.bool true)], args := [d] }
  | _ => none }
def frameKeepsRow : OpenClaim := { program := "ytfmfmalhebfnhaa", sum := "e818cdb6704d521286e2748792233c7a68b1daaf6da43d27ac8eccef8884c14c", func := "millrace/millracelaw02.FrameKeeps", spec := "frameKeeps", unfollowed := true, recurses := true, apart := false }
def FrameKeepsSaid : Prop := frameKeepsRow.holds Try.pinned (OpenSpec.ofChange frameKeepsSpec)

/-- ITS FALSE NEIGHBOUR: 'it returns false'. Refute it at one input. -/
def frameKeepsWrong : ChangeSpec := { name := "frameKeeps", fn := fun _ => fun
  | [d] => { results := [.lit (.bool false)], args := [d] }
  | _ => none }
def FrameKeepsWrongFalsely : Prop := frameKeepsRow.holds Try.pinned (OpenSpec.ofChange frameKeepsWrong)

/-- 'millracelaw02.FrameRows': WHATEVER THE INPUT: true; the input reads as it did. -/
def frameRowsSpec : ChangeSpec := { name := "frameRows", fn := fun _ => fun
  | [d1, d2] => { results := [.lit (.bool true)], args := [d1, d2] }
  | _ => none }
def frameRowsRow : OpenClaim := { program := "ytfmfmalhebfnhaa", sum := "e818cdb6704d521286e2748792233c7a68b1daaf6da43d27ac8eccef8884c14c", func := "millrace/millracelaw02.FrameRows", spec := "frameRows", unfollowed := true, recurses := true, apart := false }
def FrameRowsSaid : Prop := frameRowsRow.holds Try.pinned (OpenSpec.ofChange frameRowsSpec)

/-- ITS FALSE NEIGHBOUR: 'it returns false'. Refute it at one input. -/
def frameRowsWrong : ChangeSpec := { name := "frameRows", fn := fun _ => fun
  | [d1, d2] => { results := [.lit (.bool false)], args := [d1, d2] }
  | _ => none }
def FrameRowsWrongFalsely : Prop := frameRowsRow.holds Try.pinned (OpenSpec.ofChange frameRowsWrong)

/- THE SECOND FORM. 'bulk': how many values and letters a reading holds, each counted each time it is reached (what is shared counts as often as it is met; a slice's spare places count too). A statement '..UptoSaid' is the law's where the arguments, and the package variables that the reading takes, are together of bulk at most 1048576: NARROWER than '..Said'. Prove '..Said' where nothing that the law and all that it calls make is longer than what came in: it says more and counts as full. Else prove '..UptoSaid'. A law counts once. -/
mutual
def uptoBulk {H : Type} : DataW H → Nat
  | .lit (.string bytes) => bytes.length + 1
  | .lit _ => 1
  | .nil => 1
  | .ptr d => uptoBulk d + 1
  | .slice elems spare => uptoBulkAll elems + uptoBulkAll spare + 1
  | .agg parts => uptoBulkAll parts + 1
  | .iface _ d => uptoBulk d + 1
  | .map entries => uptoBulkEntries entries + 1
  | .held _ => 1
def uptoBulkAll {H : Type} : List (DataW H) → Nat
  | [] => 0
  | d :: r => uptoBulk d + uptoBulkAll r
def uptoBulkEntries {H : Type} : List (Lit × DataW H) → Nat
  | [] => 0
  | x :: r => uptoBulkEntry x + uptoBulkEntries r
def uptoBulkEntry {H : Type} : Lit × DataW H → Nat
  | (.string bytes, d) => bytes.length + uptoBulk d + 1
  | (_, d) => uptoBulk d + 1
 end
def uptoSmall : (H : Type) → List (DataW H) → Bool := fun _ ds => decide (uptoBulkAll ds ≤ 1048576)
def OpenSpec.upto (s : _root_.Go.ChangeSpec) : _root_.Go.OpenSpec := { _root_.Go.OpenSpec.ofChange s with cond := some uptoSmall }

/-- 'millracelaw02.FramePuts', WHERE WHAT IT READS IS OF BULK AT MOST 1048576: true; the input reads as it did. -/
def framePutsUptoRow : OpenClaim := { program := "ytfmfmalhebfnhaa", sum := "e818cdb6704d521286e2748792233c7a68b1daaf6da43d27ac8eccef8884c14c", func := "millrace/millracelaw02.FramePuts", spec := "framePuts", unfollowed := true, recurses := true, apart := false, narrowed := true }
def FramePutsUptoSaid : Prop := framePutsUptoRow.holds Try.pinned (OpenSpec.upto framePutsSpec)

/-- 'millracelaw02.FrameNexts', WHERE WHAT IT READS IS OF BULK AT MOST 1048576: true; the input reads as it did. -/
def frameNextsUptoRow : OpenClaim := { program := "ytfmfmalhebfnhaa", sum := "e818cdb6704d521286e2748792233c7a68b1daaf6da43d27ac8eccef8884c14c", func := "millrace/millracelaw02.FrameNexts", spec := "frameNexts", unfollowed := true, recurses := true, apart := false, narrowed := true }
def FrameNextsUptoSaid : Prop := frameNextsUptoRow.holds Try.pinned (OpenSpec.upto frameNextsSpec)

/-- 'millracelaw02.FrameCuts', WHERE WHAT IT READS IS OF BULK AT MOST 1048576: true; the input reads as it did. -/
def frameCutsUptoRow : OpenClaim := { program := "ytfmfmalhebfnhaa", sum := "e818cdb6704d521286e2748792233c7a68b1daaf6da43d27ac8eccef8884c14c", func := "millrace/millracelaw02.FrameCuts", spec := "frameCuts", unfollowed := true, recurses := true, apart := false, narrowed := true }
def FrameCutsUptoSaid : Prop := frameCutsUptoRow.holds Try.pinned (OpenSpec.upto frameCutsSpec)

/-- 'millracelaw02.FrameBack', WHERE WHAT IT READS IS OF BULK AT MOST 1048576: true; the input reads as it did. -/
def frameBackUptoRow : OpenClaim := { program := "ytfmfmalhebfnhaa", sum := "e818cdb6704d521286e2748792233c7a68b1daaf6da43d27ac8eccef8884c14c", func := "millrace/millracelaw02.FrameBack", spec := "frameBack", unfollowed := true, recurses := true, apart := false, narrowed := true }
def FrameBackUptoSaid : Prop := frameBackUptoRow.holds Try.pinned (OpenSpec.upto frameBackSpec)

/-- 'millracelaw02.FrameFlips', WHERE WHAT IT READS IS OF BULK AT MOST 1048576: true; the input reads as it did. -/
def frameFlipsUptoRow : OpenClaim := { program := "ytfmfmalhebfnhaa", sum := "e818cdb6704d521286e2748792233c7a68b1daaf6da43d27ac8eccef8884c14c", func := "millrace/millracelaw02.FrameFlips", spec := "frameFlips", unfollowed := true, recurses := true, apart := false, narrowed := true }
def FrameFlipsUptoSaid : Prop := frameFlipsUptoRow.holds Try.pinned (OpenSpec.upto frameFlipsSpec)

/-- 'millracelaw02.FrameKeeps', WHERE WHAT IT READS IS OF BULK AT MOST 1048576: true; the input reads as it did. -/
def frameKeepsUptoRow : OpenClaim := { program := "ytfmfmalhebfnhaa", sum := "e818cdb6704d521286e2748792233c7a68b1daaf6da43d27ac8eccef8884c14c", func := "millrace/millracelaw02.FrameKeeps", spec := "frameKeeps", unfollowed := true, recurses := true, apart := false, narrowed := true }
def FrameKeepsUptoSaid : Prop := frameKeepsUptoRow.holds Try.pinned (OpenSpec.upto frameKeepsSpec)

/-- 'millracelaw02.FrameRows', WHERE WHAT IT READS IS OF BULK AT MOST 1048576: true; the input reads as it did. -/
def frameRowsUptoRow : OpenClaim := { program := "ytfmfmalhebfnhaa", sum := "e818cdb6704d521286e2748792233c7a68b1daaf6da43d27ac8eccef8884c14c", func := "millrace/millracelaw02.FrameRows", spec := "frameRows", unfollowed := true, recurses := true, apart := false, narrowed := true }
def FrameRowsUptoSaid : Prop := frameRowsUptoRow.holds Try.pinned (OpenSpec.upto frameRowsSpec)

end Rows
end Go.Proofs.Ytfmfmalhebfnhaa
