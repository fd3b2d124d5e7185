/-
  No cell of these rows narrows 'for every input' (looked for: loops, veiled, ifaces, maps, wideKeys, modest, calm, conditions, laid).
  DERIVED. THE GIVEN ROWS OF THIS SEAT. 4 by the template 'for every input the law returns true; each argument reads behind the call as it read before'; 0 by the template 'total and deterministic' (their statements: YtpmkepmnldkccaaTotals.lean).
  GIVEN WITH THE SEED: the statements are not yours to turn. If you find one false, say at which input.
  Laid BY PROGRAM, IN A SANDBOX (cutbox-rows.mjs): the forced cells as the released guide's own fill.sh prints them over the translation dbab919b68b1a78e… (all of the seat's roots in one cut). By AI agents, Wed Nov 11 2026. No macro, syntax, notation, axiom, sorry.
-/
import Derived.Test.YtpmkepmnldkccaaChecked
import GoSem.Claim
import GoSem.ClaimJoined
import GoSem.ClaimMapViews
import Derived.JoinedTies
import Derived.KernelRfl
namespace Go.Proofs.Ytpmkepmnldkccaa
/- THE CELL 'sum', in the pinned program and in every row, IS THE sha256 OF THE DUMP (.gsa) THAT YtpmkepmnldkccaaProg.lean LOADS. Nothing in Lean hashes anything: it is a label: what it is worth is what the hold of that sum in a sandbox is worth. -/
noncomputable def Try.pinned : Pinned := { name := "ytpmkepmnldkccaa", sum := "dbab919b68b1a78ed9ecd677bc367faab8dbbb33736e02ea01c2264ff9044ae1", checked := Try.checked }
namespace Rows
def none {H : Type} : Left H := { results := [], args := [] }

/-- 'millracelaw05.MailNone': WHATEVER THE INPUT: true; the input reads as it did. -/
def mailNoneSpec : ChangeSpec := { name := "mailNone", fn := fun _ => fun
  | [d1, d2] => { results := [.lit (.bool true)], args := [d1, d2] }
  | _ => none }
def mailNoneRow : OpenClaim := { program := "ytpmkepmnldkccaa", sum := "dbab919b68b1a78ed9ecd677bc367faab8dbbb33736e02ea01c2264ff9044ae1", func := "millrace/millracelaw05.MailNone", spec := "mailNone", apart := false }
def MailNoneSaid : Prop := mailNoneRow.holds Try.pinned (OpenSpec.ofChange mailNoneSpec)

/-- ITS FALSE NEIGHBOUR: 'it returns false'. Refute it at one input. -/
def mailNoneWrong : ChangeSpec := { name := "mailNone", fn := fun _ => fun
  | [d1, d2] => { results := [.lit (.bool false)], args := [d1, d2] }
  | _ => none }
def MailNoneWrongFalsely : Prop := mailNoneRow.holds Try.pinned (OpenSpec.ofChange mailNoneWrong)

/-- 'millracelaw05.MailOrder': WHATEVER THE INPUT: true; the input reads as it did. -/
def mailOrderSpec : ChangeSpec := { name := "mailOrder", fn := fun _ => fun
  | [d1, d2] => { results := [.lit (.bool true)], args := [d1, d2] }
  | _ => none }
def mailOrderRow : OpenClaim := { program := "ytpmkepmnldkccaa", sum := "dbab919b68b1a78ed9ecd677bc367faab8dbbb33736e02ea01c2264ff9044ae1", func := "millrace/millracelaw05.MailOrder", spec := "mailOrder", apart := false }
def MailOrderSaid : Prop := mailOrderRow.holds Try.pinned (OpenSpec.ofChange mailOrderSpec)

/-- ITS FALSE NEIGHBOUR: 'it returns false'. Refute it at one input. -/
def mailOrderWrong : ChangeSpec := { name := "mailOrder", fn := fun _ => fun
  | [d1, d2] => { results := [.lit (.bool false)], args := [d1, d2] }
  | _ => none }
def MailOrderWrongFalsely : Prop := mailOrderRow.holds Try.pinned (OpenSpec.ofChange mailOrderWrong)

/-- 'millracelaw05.MailScripts': WHATEVER THE INPUT: true; the input reads as it did. -/
def mailScriptsSpec : ChangeSpec := { name := "mailScripts", fn := fun _ => fun
  | [d1, d2] => { results := [.lit (.bool true)], args := [d1, d2] }
  | _ => none }
def mailScriptsRow : OpenClaim := { program := "ytpmkepmnldkccaa", sum := "dbab919b68b1a78ed9ecd677bc367faab8dbbb33736e02ea01c2264ff9044ae1", func := "millrace/millracelaw05.MailScripts", spec := "mailScripts", unfollowed := true, recurses := true, apart := false }
def MailScriptsSaid : Prop := mailScriptsRow.holds Try.pinned (OpenSpec.ofChange mailScriptsSpec)

/-- ITS FALSE NEIGHBOUR: 'it returns false'. Refute it at one input. -/
def mailScriptsWrong : ChangeSpec := { name := "mailScripts", fn := fun _ => fun
  | [d1, d2] => { results := [.lit (.bool false)], args := [d1, d2] }
  | _ => none }
def MailScriptsWrongFalsely : Prop := mailScriptsRow.holds Try.pinned (OpenSpec.ofChange mailScriptsWrong)

/-- 'millracelaw05.MailKeeps': WHATEVER THE INPUT: true; the input reads as it did. -/
def mailKeepsSpec : ChangeSpec := { name := "mailKeeps", fn := fun _ => fun
  | [d] => { results := [.lit (.bool true)], args := [d] }
  | _ => none }
def mailKeepsRow : OpenClaim := { program := "ytpmkepmnldkccaa", sum := "dbab919b68b1a78ed9ecd677bc367faab8dbbb33736e02ea01c2264ff9044ae1", func := "millrace/millracelaw05.MailKeeps", spec := "mailKeeps", unfollowed := true, recurses := true, apart := false }
def MailKeepsSaid : Prop := mailKeepsRow.holds Try.pinned (OpenSpec.ofChange mailKeepsSpec)

/-- ITS FALSE NEIGHBOUR: 'it returns false'. Refute it at one input. -/
def mailKeepsWrong : ChangeSpec := { name := "mailKeeps", fn := fun _ => fun
  | [d] => { results := [.lit (.bool false)], args := [d] }
  | _ => none }
def MailKeepsWrongFalsely : Prop := mailKeepsRow.holds Try.pinned (OpenSpec.ofChange mailKeepsWrong)

/- THE SECOND FORM. 'bulk': how many values and letters a reading holds, each counted each time it is reached (what is shared counts as often as it is met; a slice's spare places count too). A statement '..UptoSaid' is the law's where the arguments, and the package variables that the reading takes, are together of bulk at most 1048576: NARROWER than '..Said'. Prove '..Said' where nothing that the law and all that it calls make is longer than what came in: it says more and counts as full. Else prove '..UptoSaid'. A law counts once. -/
mutual
def uptoBulk {H : Type} : DataW H → Nat
  | .lit (.string bytes) => bytes.length + 1
  | .lit _ => 1
  | .nil => 1
  | .ptr d => uptoBulk d + 1
  | .slice elems spare => uptoBulkAll elems + uptoBulkAll spare + 1
  | .agg parts => uptoBulkAll parts + 1
  | .iface _ d => uptoBulk d + 1
  | .map entries => uptoBulkEntries entries + 1
  | .held _ => 1
def uptoBulkAll {H : Type} : List (DataW H) → Nat
  | [] => 0
  | d :: r => uptoBulk d + uptoBulkAll r
def uptoBulkEntries {H : Type} : List (Lit × DataW H) → Nat
  | [] => 0
  | x :: r => uptoBulkEntry x + uptoBulkEntries r
def uptoBulkEntry {H : Type} : Lit × DataW H → Nat
  | (.string bytes, d) => bytes.length + uptoBulk d + 1
  | (_, d) => uptoBulk d + 1
 end
def uptoSmall : (H : Type) → List (DataW H) → Bool := fun _ ds => decide (uptoBulkAll ds ≤ 1048576)
def OpenSpec.upto (s : _root_.Go.ChangeSpec) : _root_.Go.OpenSpec := { _root_.Go.OpenSpec.ofChange s with cond := some uptoSmall }

/-- 'millracelaw05.MailNone', WHERE WHAT IT READS IS OF BULK AT MOST 1048576: true; the input reads as it did. -/
def mailNoneUptoRow : OpenClaim := { program := "ytpmkepmnldkccaa", sum := "dbab919b68b1a78ed9ecd677bc367faab8dbbb33736e02ea01c2264ff9044ae1", func := "millrace/millracelaw05.MailNone", spec := "mailNone", apart := false, narrowed := true }
def MailNoneUptoSaid : Prop := mailNoneUptoRow.holds Try.pinned (OpenSpec.upto mailNoneSpec)

/-- 'millracelaw05.MailOrder', WHERE WHAT IT READS IS OF BULK AT MOST 1048576: true; the input reads as it did. -/
def mailOrderUptoRow : OpenClaim := { program := "ytpmkepmnldkccaa", sum := "dbab919b68b1a78ed9ecd677bc367faab8dbbb33736e02ea01c2264ff9044ae1", func := "millrace/millracelaw05.MailOrder", spec := "mailOrder", apart := false, narrowed := true }
def MailOrderUptoSaid : Prop := mailOrderUptoRow.holds Try.pinned (OpenSpec.upto mailOrderSpec)

/-- 'millracelaw05.MailScripts', WHERE WHAT IT READS IS OF BULK AT MOST 1048576: true; the input reads as it did. -/
def mailScriptsUptoRow : OpenClaim := { program := "ytpmkepmnldkccaa", sum := "dbab919b68b1a78ed9ecd677bc367faab8dbbb33736e02ea01c2264ff9044ae1", func := "millrace/millracelaw05.MailScripts", spec := "mailScripts", unfollowed := true, recurses := true, apart := false, narrowed := true }
def MailScriptsUptoSaid : Prop := mailScriptsUptoRow.holds Try.pinned (OpenSpec.upto mailScriptsSpec)

/-- 'millracelaw05.MailKeeps', WHERE WHAT IT READS IS OF BULK AT MOST 1048576: true; the input reads as it did. -/
def mailKeepsUptoRow : OpenClaim := { program := "ytpmkepmnldkccaa", sum := "dbab919b68b1a78ed9ecd677bc367faab8dbbb33736e02ea01c2264ff9044ae1", func := "millrace/millracelaw05.MailKeeps", spec := "mailKeeps", unfollowed := true, recurses := true, apart := false, narrowed := true }
def MailKeepsUptoSaid : Prop := mailKeepsUptoRow.holds Try.pinned (OpenSpec.upto mailKeepsSpec)

end Rows
end Go.Proofs.Ytpmkepmnldkccaa
