/-
  DERIVED. GIVEN WITH THE SEED: THE CARDS: each row of YthgmligpconhhaaGreatDoorRows.lean that lists a variable, with what it lists TIED to the program's text (the seventh form; the later family's looks); each row that meets fmt, with fmt's text TOLD by the authors' own Lean function (tested against real Go, not proved from fmt's source: count such statements apart). THE CARD IS WHAT COUNTS. Prove the row's statement (the work); the ties are given (YthgmligpconhhaaGreatDoorTie.lean); close each card by the builder's one call (the guide's Derived/Test/ToyasCard.lean, 'card_holds'). Laid BY PROGRAM, IN A SANDBOX (cutbox-door.mjs). By AI agents, Wed Nov 11 2026. No macro, syntax, notation, axiom, sorry.
-/
import Derived.Test.YthgmligpconhhaaGreatDoorRows
import GoSem.ClaimSeven
namespace Go.Proofs.YthgmligpconhhaaGreatDoor
namespace Rows

/-- THE TIED CARD OF 'millracelaw24.SinkNext'. -/
def sinkNextCard : Claim7 := { stood := { row := sinkNextRow, standIns := [], harness := (true, "f44c0478fff0d5ac09f483dfc8f36e21f8c4c901c6713909911685f3289f85bd"), looks := true }, kinds := [], alts := [], laidByText := true, laidKinds := [.data, .data, .data, .sentinel, .sentinel], laidTests := true, laidLooks := .later }
def SinkNextCardSaid : Prop := Claim7.holds Tryz.pinned (.plain (OpenSpec.ofChange sinkNextSpec)) sinkNextCard

/-- THE TIED CARD OF 'millracelaw24.SinkKeeps'. -/
def sinkKeepsCard : Claim7 := { stood := { row := sinkKeepsRow, standIns := [], harness := (true, "f44c0478fff0d5ac09f483dfc8f36e21f8c4c901c6713909911685f3289f85bd"), looks := true }, kinds := [], alts := [], laidByText := true, laidKinds := [.data, .data, .data, .sentinel, .sentinel], laidTests := true, laidLooks := .later }
def SinkKeepsCardSaid : Prop := Claim7.holds Tryz.pinned (.plain (OpenSpec.ofChange sinkKeepsSpec)) sinkKeepsCard

/-- THE TIED CARD OF 'millracelaw24.SinkOnce'. -/
def sinkOnceCard : Claim7 := { stood := { row := sinkOnceRow, standIns := [], harness := (true, "f44c0478fff0d5ac09f483dfc8f36e21f8c4c901c6713909911685f3289f85bd"), looks := true }, kinds := [], alts := [], laidByText := true, laidKinds := [.data, .data, .data, .sentinel, .sentinel], laidTests := true, laidLooks := .later }
def SinkOnceCardSaid : Prop := Claim7.holds Tryz.pinned (.plain (OpenSpec.ofChange sinkOnceSpec)) sinkOnceCard

/-- THE SECOND FORM's CARD OF 'millracelaw24.SinkNext'. -/
def sinkNextUptoCard : Claim7 := { stood := { row := sinkNextUptoRow, standIns := [], harness := (true, "f44c0478fff0d5ac09f483dfc8f36e21f8c4c901c6713909911685f3289f85bd"), looks := true }, kinds := [], alts := [], laidByText := true, laidKinds := [.data, .data, .data, .sentinel, .sentinel], laidTests := true, laidLooks := .later }
def SinkNextUptoCardSaid : Prop := Claim7.holds Tryz.pinned (.plain (OpenSpec.upto sinkNextSpec)) sinkNextUptoCard

/-- THE SECOND FORM's CARD OF 'millracelaw24.SinkKeeps'. -/
def sinkKeepsUptoCard : Claim7 := { stood := { row := sinkKeepsUptoRow, standIns := [], harness := (true, "f44c0478fff0d5ac09f483dfc8f36e21f8c4c901c6713909911685f3289f85bd"), looks := true }, kinds := [], alts := [], laidByText := true, laidKinds := [.data, .data, .data, .sentinel, .sentinel], laidTests := true, laidLooks := .later }
def SinkKeepsUptoCardSaid : Prop := Claim7.holds Tryz.pinned (.plain (OpenSpec.upto sinkKeepsSpec)) sinkKeepsUptoCard

/-- THE SECOND FORM's CARD OF 'millracelaw24.SinkOnce'. -/
def sinkOnceUptoCard : Claim7 := { stood := { row := sinkOnceUptoRow, standIns := [], harness := (true, "f44c0478fff0d5ac09f483dfc8f36e21f8c4c901c6713909911685f3289f85bd"), looks := true }, kinds := [], alts := [], laidByText := true, laidKinds := [.data, .data, .data, .sentinel, .sentinel], laidTests := true, laidLooks := .later }
def SinkOnceUptoCardSaid : Prop := Claim7.holds Tryz.pinned (.plain (OpenSpec.upto sinkOnceSpec)) sinkOnceUptoCard
end Rows
end Go.Proofs.YthgmligpconhhaaGreatDoor
