/-
  No cell of these rows narrows 'for every input' (looked for: loops, veiled, ifaces, maps, wideKeys, modest, calm, conditions, laid).
  DERIVED. THE GIVEN ROWS OF THIS SEAT. 3 by the template 'for every input the law returns true; each argument reads behind the call as it read before'; 0 by the template 'total and deterministic' (their statements: YtibmgjhpkdgnpaaTotals.lean).
  GIVEN WITH THE SEED: the statements are not yours to turn. If you find one false, say at which input.
  Laid BY PROGRAM, IN A SANDBOX (cutbox-rows.mjs): the forced cells as the released guide's own fill.sh prints them over the translation c7dbfdc8b45f4ecd… (all of the seat's roots in one cut). By AI agents, Wed Nov 11 2026. No macro, syntax, notation, axiom, sorry.
-/
import Derived.Test.YtibmgjhpkdgnpaaChecked
import GoSem.Claim
import GoSem.ClaimJoined
import GoSem.ClaimMapViews
import Derived.JoinedTies
import Derived.KernelRfl
namespace Go.Proofs.Ytibmgjhpkdgnpaa
/- THE CELL 'sum', in the pinned program and in every row, IS THE sha256 OF THE DUMP (.gsa) THAT YtibmgjhpkdgnpaaProg.lean LOADS. Nothing in Lean hashes anything: it is a label: what it is worth is what the hold of that sum in a sandbox is worth. -/
noncomputable def Try.pinned : Pinned := { name := "ytibmgjhpkdgnpaa", sum := "c7dbfdc8b45f4ecdebb48c5bee58100bfae041945cec4233e74a0f82daeb24db", checked := Try.checked }
namespace Rows
def none {H : Type} : Left H := { results := [], args := [] }

/-- 'millracelaw15.QuotaChecks': WHATEVER THE INPUT: true; the input reads as it did. -/
def quotaChecksSpec : ChangeSpec := { name := "quotaChecks", fn := fun _ => fun
  | [d1, d2, d3] => { results := [.lit (.bool true)], args := [d1, d2, d3] }
  | _ => none }
def quotaChecksRow : OpenClaim := { program := "ytibmgjhpkdgnpaa", sum := "c7dbfdc8b45f4ecdebb48c5bee58100bfae041945cec4233e74a0f82daeb24db", func := "millrace/millracelaw15.QuotaChecks", spec := "quotaChecks", unfollowed := true, recurses := true, apart := false }
def QuotaChecksSaid : Prop := quotaChecksRow.holds Try.pinned (OpenSpec.ofChange quotaChecksSpec)

/-- ITS FALSE NEIGHBOUR: 'it returns false'. Refute it at one input. -/
def quotaChecksWrong : ChangeSpec := { name := "quotaChecks", fn := fun _ => fun
  | [d1, d2, d3] => { results := [.lit (.bool false)], args := [d1, d2, d3] }
  | _ => none }
def QuotaChecksWrongFalsely : Prop := quotaChecksRow.holds Try.pinned (OpenSpec.ofChange quotaChecksWrong)

/-- 'millracelaw15.QuotaTurns': WHATEVER THE INPUT: true; the input reads as it did. -/
def quotaTurnsSpec : ChangeSpec := { name := "quotaTurns", fn := fun _ => fun
  | [d1, d2, d3] => { results := [.lit (.bool true)], args := [d1, d2, d3] }
  | _ => none }
def quotaTurnsRow : OpenClaim := { program := "ytibmgjhpkdgnpaa", sum := "c7dbfdc8b45f4ecdebb48c5bee58100bfae041945cec4233e74a0f82daeb24db", func := "millrace/millracelaw15.QuotaTurns", spec := "quotaTurns", unfollowed := true, recurses := true, apart := false }
def QuotaTurnsSaid : Prop := quotaTurnsRow.holds Try.pinned (OpenSpec.ofChange quotaTurnsSpec)

/-- ITS FALSE NEIGHBOUR: 'it returns false'. Refute it at one input. -/
def quotaTurnsWrong : ChangeSpec := { name := "quotaTurns", fn := fun _ => fun
  | [d1, d2, d3] => { results := [.lit (.bool false)], args := [d1, d2, d3] }
  | _ => none }
def QuotaTurnsWrongFalsely : Prop := quotaTurnsRow.holds Try.pinned (OpenSpec.ofChange quotaTurnsWrong)

/-- 'millracelaw15.QuotaHolds': WHATEVER THE INPUT: true; the input reads as it did. -/
def quotaHoldsSpec : ChangeSpec := { name := "quotaHolds", fn := fun _ => fun
  | [d] => { results := [.lit (.bool true)], args := [d] }
  | _ => none }
def quotaHoldsRow : OpenClaim := { program := "ytibmgjhpkdgnpaa", sum := "c7dbfdc8b45f4ecdebb48c5bee58100bfae041945cec4233e74a0f82daeb24db", func := "millrace/millracelaw15.QuotaHolds", spec := "quotaHolds", inPlace := ["slices.overlaps[millrace/api.Row]"], unfollowed := true, recurses := true, apart := false }
def QuotaHoldsSaid : Prop := quotaHoldsRow.holds Try.pinned (OpenSpec.ofChange quotaHoldsSpec)

/-- ITS FALSE NEIGHBOUR: 'it returns false'. Refute it at one input. -/
def quotaHoldsWrong : ChangeSpec := { name := "quotaHolds", fn := fun _ => fun
  | [d] => { results := [.lit (.bool false)], args := [d] }
  | _ => none }
def QuotaHoldsWrongFalsely : Prop := quotaHoldsRow.holds Try.pinned (OpenSpec.ofChange quotaHoldsWrong)

/- THE SECOND FORM. 'bulk': how many values and letters a reading holds, each counted each time it is reached (what is shared counts as often as it is met; a slice's spare places count too). A statement '..UptoSaid' is the law's where the arguments, and the package variables that the reading takes, are together of bulk at most 1048576: NARROWER than '..Said'. Prove '..Said' where nothing that the law and all that it calls make is longer than what came in: it says more and counts as full. Else prove '..UptoSaid'. A law counts once. -/
mutual
def uptoBulk {H : Type} : DataW H → Nat
  | .lit (.string bytes) => bytes.length + 1
  | .lit _ => 1
  | .nil => 1
  | .ptr d => uptoBulk d + 1
  | .slice elems spare => uptoBulkAll elems + uptoBulkAll spare + 1
  | .agg parts => uptoBulkAll parts + 1
  | .iface _ d => uptoBulk d + 1
  | .map entries => uptoBulkEntries entries + 1
  | .held _ => 1
def uptoBulkAll {H : Type} : List (DataW H) → Nat
  | [] => 0
  | d :: r => uptoBulk d + uptoBulkAll r
def uptoBulkEntries {H : Type} : List (Lit × DataW H) → Nat
  | [] => 0
  | x :: r => uptoBulkEntry x + uptoBulkEntries r
def uptoBulkEntry {H : Type} : Lit × DataW H → Nat
  | (.string bytes, d) => bytes.length + uptoBulk d + 1
  | (_, d) => uptoBulk d + 1
 end
def uptoSmall : (H : Type) → List (DataW H) → Bool := fun _ ds => decide (uptoBulkAll ds ≤ 1048576)
def OpenSpec.upto (s : _root_.Go.ChangeSpec) : _root_.Go.OpenSpec := { _root_.Go.OpenSpec.ofChange s with cond := some uptoSmall }

/-- 'millracelaw15.QuotaChecks', WHERE WHAT IT READS IS OF BULK AT MOST 1048576: true; the input reads as it did. -/
def quotaChecksUptoRow : OpenClaim := { program := "ytibmgjhpkdgnpaa", sum := "c7dbfdc8b45f4ecdebb48c5bee58100bfae041945cec4233e74a0f82daeb24db", func := "millrace/millracelaw15.QuotaChecks", spec := "quotaChecks", unfollowed := true, recurses := true, apart := false, narrowed := true }
def QuotaChecksUptoSaid : Prop := quotaChecksUptoRow.holds Try.pinned (OpenSpec.upto quotaChecksSpec)

/-- 'millracelaw15.QuotaTurns', WHERE WHAT IT READS IS OF BULK AT MOST 1048576: true; the input reads as it did. -/
def quotaTurnsUptoRow : OpenClaim := { program := "ytibmgjhpkdgnpaa", sum := "c7dbfdc8b45f4ecdebb48c5bee58100bfae041945cec4233e74a0f82daeb24db", func := "millrace/millracelaw15.QuotaTurns", spec := "quotaTurns", unfollowed := true, recurses := true, apart := false, narrowed := true }
def QuotaTurnsUptoSaid : Prop := quotaTurnsUptoRow.holds Try.pinned (OpenSpec.upto quotaTurnsSpec)

/-- 'millracelaw15.QuotaHolds', WHERE WHAT IT READS IS OF BULK AT MOST 1048576: true; the input reads as it did. -/
def quotaHoldsUptoRow : OpenClaim := { program := "ytibmgjhpkdgnpaa", sum := "c7dbfdc8b45f4ecdebb48c5bee58100bfae041945cec4233e74a0f82daeb24db", func := "millrace/millracelaw15.QuotaHolds", spec := "quotaHolds", inPlace := ["slices.overlaps[millrace/api.Row]"], unfollowed := true, recurses := true, apart := false, narrowed := true }
def QuotaHoldsUptoSaid : Prop := quotaHoldsUptoRow.holds Try.pinned (OpenSpec.upto quotaHoldsSpec)

end Rows
end Go.Proofs.Ytibmgjhpkdgnpaa
