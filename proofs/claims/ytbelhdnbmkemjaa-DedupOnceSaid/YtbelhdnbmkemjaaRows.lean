/-
  No cell of these rows narrows 'for every input' (looked for: loops, veiled, ifaces, maps, wideKeys, modest, calm, conditions, laid).
  DERIVED. THE GIVEN ROWS OF THIS SEAT. 4 by the template 'for every input the law returns true; each argument reads behind the call as it read before'; 0 by the template 'total and deterministic' (their statements: YtbelhdnbmkemjaaTotals.lean).
  GIVEN WITH THE SEED: the statements are not yours to turn. If you find one false, say at which input.
  Laid BY PROGRAM, IN A SANDBOX (cutbox-rows.mjs): the forced cells as the released guide's own fill.sh prints them over the translation b8bd4064e78c271d… (all of the seat's roots in one cut). By AI agents, Wed Nov 11 2026. No macro, syntax, notation, axiom, sorry.
-/
import Derived.Test.YtbelhdnbmkemjaaChecked
import GoSem.Claim
import GoSem.ClaimJoined
import GoSem.ClaimMapViews
import Derived.JoinedTies
import Derived.KernelRfl
namespace Go.Proofs.Ytbelhdnbmkemjaa
/- THE CELL 'sum', in the pinned program and in every row, IS THE sha256 OF THE DUMP (.gsa) THAT YtbelhdnbmkemjaaProg.lean LOADS. Nothing in Lean hashes anything: it is a label: what it is worth is what the hold of that sum in a sandbox is worth. -/
noncomputable def Try.pinned : Pinned := { name := "ytbelhdnbmkemjaa", sum := "b8bd4064e78c271d1d7b66d30d3a87be67a838afff03ee98a57aad2955008802", checked := Try.checked }
namespace Rows
def none {H : Type} : Left H := { results := [], args := [] }

/-- 'millracelaw13.DedupApart': WHATEVER THE INPUT: true; the input reads as it did. -/
def dedupApartSpec : ChangeSpec := { name := "dedupApart", fn := fun _ => fun
  | [d1, d2, d3] => { results := [.lit (.bool true)], args := [d1, d2, d3] }
  | _ => none }
def dedupApartRow : OpenClaim := { program := "ytbelhdnbmkemjaa", sum := "b8bd4064e78c271d1d7b66d30d3a87be67a838afff03ee98a57aad2955008802", func := "millrace/millracelaw13.DedupApart", spec := "dedupApart", inPlace := ["slices.overlaps[millrace/api.Row]"], unfollowed := true, recurses := true, apart := false }
def DedupApartSaid : Prop := dedupApartRow.holds Try.pinned (OpenSpec.ofChange dedupApartSpec)

/-- ITS FALSE NEIGHBOUR: 'it returns false'. Refute it at one input. -/
def dedupApartWrong : ChangeSpec := { name := "dedupApart", fn := fun _ => fun
  | [d1, d2, d3] => { results := [.lit (.bool false)], args := [d1, d2, d3] }
  | _ => none }
def DedupApartWrongFalsely : Prop := dedupApartRow.holds Try.pinned (OpenSpec.ofChange dedupApartWrong)

/-- 'millracelaw13.DedupLooks': WHATEVER THE INPUT: true; the input reads as it did. -/
def dedupLooksSpec : ChangeSpec := { name := "dedupLooks", fn := fun _ => fun
  | [d1, d2, d3] => { results := [.lit (.bool true)], args := [d1, d2, d3] }
  | _ => none }
def dedupLooksRow : OpenClaim := { program := "ytbelhdnbmkemjaa", sum := "b8bd4064e78c271d1d7b66d30d3a87be67a838afff03ee98a57aad2955008802", func := "millrace/millracelaw13.DedupLooks", spec := "dedupLooks", inPlace := ["slices.overlaps[millrace/api.Row]"], unfollowed := true, recurses := true, apart := false }
def DedupLooksSaid : Prop := dedupLooksRow.holds Try.pinned (OpenSpec.ofChange dedupLooksSpec)

/-- ITS FALSE NEIGHBOUR: 'it returns false'. Refute it at one input. -/
def dedupLooksWrong : ChangeSpec := { name := "dedupLooks", fn := fun _ => fun
  | [d1, d2, d3] => { results := [.lit (.bool false)], args := [d1, d2, d3] }
  | _ => none }
def DedupLooksWrongFalsely : Prop := dedupLooksRow.holds Try.pinned (OpenSpec.ofChange dedupLooksWrong)

/-- 'millracelaw13.DedupTakes': WHATEVER THE INPUT: true; the input reads as it did. -/
def dedupTakesSpec : ChangeSpec := { name := "dedupTakes", fn := fun _ => fun
  | [d1, d2, d3] => { results := [.lit (.bool true)], args := [d1, d2, d3] }
  | _ => none }
def dedupTakesRow : OpenClaim := { program := "ytbelhdnbmkemjaa", sum := "b8bd4064e78c271d1d7b66d30d3a87be67a838afff03ee98a57aad2955008802", func := "millrace/millracelaw13.DedupTakes", spec := "dedupTakes", inPlace := ["slices.overlaps[millrace/api.Row]"], unfollowed := true, recurses := true, apart := false }
def DedupTakesSaid : Prop := dedupTakesRow.holds Try.pinned (OpenSpec.ofChange dedupTakesSpec)

/-- ITS FALSE NEIGHBOUR: 'it returns false'. Refute it at one input. -/
def dedupTakesWrong : ChangeSpec := { name := "dedupTakes", fn := fun _ => fun
  | [d1, d2, d3] => { results := [.lit (.bool false)], args := [d1, d2, d3] }
  | _ => none }
def DedupTakesWrongFalsely : Prop := dedupTakesRow.holds Try.pinned (OpenSpec.ofChange dedupTakesWrong)

/-- 'millracelaw13.DedupOnce': WHATEVER THE INPUT: true; the input reads as it did. -/
def dedupOnceSpec : ChangeSpec := { name := "dedupOnce", fn := fun _ => fun
  | [d] => { results := [.lit (.bool true)], args := [d] }
  | _ => none }
def dedupOnceRow : OpenClaim := { program := "ytbelhdnbmkemjaa", sum := "b8bd4064e78c271d1d7b66d30d3a87be67a838afff03ee98a57aad2955008802", func := "millrace/millracelaw13.DedupOnce", spec := "dedupOnce", inPlace := ["slices.overlaps[millrace/api.Row]"], unfollowed := true, recurses := true, apart := false }
def DedupOnceSaid : Prop := dedupOnceRow.holds Try.pinned (OpenSpec.ofChange dedupOnceSpec)

/-- ITS FALSE NEIGHBOUR: 'it returns false'. Refute it at one input. -/
def dedupOnceWrong : ChangeSpec := { name := "dedupOnce", fn := fun _ => fun
  | [d] => { results := [.lit (.bool false)], args := [d] }
  | _ => none }
def DedupOnceWrongFalsely : Prop := dedupOnceRow.holds Try.pinned (OpenSpec.ofChange dedupOnceWrong)

/- THE SECOND FORM. 'bulk': how many values and letters a reading holds, each counted each time it is reached (what is shared counts as often as it is met; a slice's spare places count too). A statement '..UptoSaid' is the law's where the arguments, and the package variables that the reading takes, are together of bulk at most 1048576: NARROWER than '..Said'. Prove '..Said' where nothing that the law and all that it calls make is longer than what came in: it says more and counts as full. Else prove '..UptoSaid'. A law counts once. -/
mutual
def uptoBulk {H : Type} : DataW H → Nat
  | .lit (.string bytes) => bytes.length + 1
  | .lit _ => 1
  | .nil => 1
  | .ptr d => uptoBulk d + 1
  | .slice elems spare => uptoBulkAll elems + uptoBulkAll spare + 1
  | .agg parts => uptoBulkAll parts + 1
  | .iface _ d => uptoBulk d + 1
  | .map entries => uptoBulkEntries entries + 1
  | .held _ => 1
def uptoBulkAll {H : Type} : List (DataW H) → Nat
  | [] => 0
  | d :: r => uptoBulk d + uptoBulkAll r
def uptoBulkEntries {H : Type} : List (Lit × DataW H) → Nat
  | [] => 0
  | x :: r => uptoBulkEntry x + uptoBulkEntries r
def uptoBulkEntry {H : Type} : Lit × DataW H → Nat
  | (.string bytes, d) => bytes.length + uptoBulk d + 1
  | (_, d) => uptoBulk d + 1
 end
def uptoSmall : (H : Type) → List (DataW H) → Bool := fun _ ds => decide (uptoBulkAll ds ≤ 1048576)
def OpenSpec.upto (s : _root_.Go.ChangeSpec) : _root_.Go.OpenSpec := { _root_.Go.OpenSpec.ofChange s with cond := some uptoSmall }

/-- 'millracelaw13.DedupApart', WHERE WHAT IT READS IS OF BULK AT MOST 1048576: true; the input reads as it did. -/
def dedupApartUptoRow : OpenClaim := { program := "ytbelhdnbmkemjaa", sum := "b8bd4064e78c271d1d7b66d30d3a87be67a838afff03ee98a57aad2955008802", func := "millrace/millracelaw13.DedupApart", spec := "dedupApart", inPlace := ["slices.overlaps[millrace/api.Row]"], unfollowed := true, recurses := true, apart := false, narrowed := true }
def DedupApartUptoSaid : Prop := dedupApartUptoRow.holds Try.pinned (OpenSpec.upto dedupApartSpec)

/-- 'millracelaw13.DedupLooks', WHERE WHAT IT READS IS OF BULK AT MOST 1048576: true; the input reads as it did. -/
def dedupLooksUptoRow : OpenClaim := { program := "ytbelhdnbmkemjaa", sum := "b8bd4064e78c271d1d7b66d30d3a87be67a838afff03ee98a57aad2955008802", func := "millrace/millracelaw13.DedupLooks", spec := "dedupLooks", inPlace := ["slices.overlaps[millrace/api.Row]"], unfollowed := true, recurses := true, apart := false, narrowed := true }
def DedupLooksUptoSaid : Prop := dedupLooksUptoRow.holds Try.pinned (OpenSpec.upto dedupLooksSpec)

/-- 'millracelaw13.DedupTakes', WHERE WHAT IT READS IS OF BULK AT MOST 1048576: true; the input reads as it did. -/
def dedupTakesUptoRow : OpenClaim := { program := "ytbelhdnbmkemjaa", sum := "b8bd4064e78c271d1d7b66d30d3a87be67a838afff03ee98a57aad2955008802", func := "millrace/millracelaw13.DedupTakes", spec := "dedupTakes", inPlace := ["slices.overlaps[millrace/api.Row]"], unfollowed := true, recurses := true, apart := false, narrowed := true }
def DedupTakesUptoSaid : Prop := dedupTakesUptoRow.holds Try.pinned (OpenSpec.upto dedupTakesSpec)

/-- 'millracelaw13.DedupOnce', WHERE WHAT IT READS IS OF BULK AT MOST 1048576: true; the input reads as it did. -/
def dedupOnceUptoRow : OpenClaim := { program := "ytbelhdnbmkemjaa", sum := "b8bd4064e78c271d1d7b66d30d3a87be67a838afff03ee98a57aad2955008802", func := "millrace/millracelaw13.DedupOnce", spec := "dedupOnce", inPlace := ["slices.overlaps[millrace/api.Row]"], unfollowed := true, recurses := true, apart := false, narrowed := true }
def DedupOnceUptoSaid : Prop := dedupOnceUptoRow.holds Try.pinned (OpenSpec.upto dedupOnceSpec)

end Rows
end Go.Proofs.Ytbelhdnbmkemjaa
