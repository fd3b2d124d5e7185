/-
  DERIVED. GIVEN WITH THE SEED: THE CARDS: each row of YtcckoppbophidaaGreatDoorRows.lean that lists a variable, with what it lists TIED to the program's text (the seventh form; the later family's looks); each row that meets fmt, with fmt's text TOLD by the authors' own Lean function (tested against real Go, not proved from fmt's source: count such statements apart). THE CARD IS WHAT COUNTS. Prove the row's statement (the work); the ties are given (YtcckoppbophidaaGreatDoorTie.lean); close each card by the builder's one call (the guide's Derived/Test/ToyasCard.lean, 'card_holds'). Laid BY PROGRAM, IN A SANDBOX (cutbox-door.mjs). By AI agents, Wed Nov 11 2026. No macro, syntax, notation, axiom, sorry.
-/
import Derived.Test.YtcckoppbophidaaGreatDoorRows
import GoSem.ClaimSeven
namespace Go.Proofs.YtcckoppbophidaaGreatDoor
namespace Rows

/-- THE TIED CARD OF 'millracelaw06.SeglogHeads'. -/
def seglogHeadsCard : Claim7 := { stood := { row := seglogHeadsRow, standIns := [], harness := (true, "248064307079d7323c22c640727e376bc0951ba1c1d9fc4ea02650572d15eab1"), looks := true }, kinds := [], alts := [], laidByText := true, laidKinds := [.data, .data, .data, .sentinel, .sentinel], laidTests := true, laidLooks := .later }
def SeglogHeadsCardSaid : Prop := Claim7.holds Tryz.pinned (.plain (OpenSpec.ofChange seglogHeadsSpec)) seglogHeadsCard

/-- THE TIED CARD OF 'millracelaw06.SeglogKeeps'. -/
def seglogKeepsCard : Claim7 := { stood := { row := seglogKeepsRow, standIns := [], harness := (true, "248064307079d7323c22c640727e376bc0951ba1c1d9fc4ea02650572d15eab1"), looks := true }, kinds := [], alts := [], laidByText := true, laidKinds := [.data, .data, .data, .sentinel, .sentinel], laidTests := true, laidLooks := .later }
def SeglogKeepsCardSaid : Prop := Claim7.holds Tryz.pinned (.plain (OpenSpec.ofChange seglogKeepsSpec)) seglogKeepsCard

/-- THE TIED CARD OF 'millracelaw06.SeglogRepairs'. -/
def seglogRepairsCard : Claim7 := { stood := { row := seglogRepairsRow, standIns := [], harness := (true, "248064307079d7323c22c640727e376bc0951ba1c1d9fc4ea02650572d15eab1"), looks := true }, kinds := [], alts := [], laidByText := true, laidKinds := [.data, .data, .data, .sentinel, .sentinel], laidTests := true, laidLooks := .later }
def SeglogRepairsCardSaid : Prop := Claim7.holds Tryz.pinned (.plain (OpenSpec.ofChange seglogRepairsSpec)) seglogRepairsCard

/-- THE TIED CARD OF 'millracelaw06.SeglogGrows'. -/
def seglogGrowsCard : Claim7 := { stood := { row := seglogGrowsRow, standIns := [], harness := (true, "248064307079d7323c22c640727e376bc0951ba1c1d9fc4ea02650572d15eab1"), looks := true }, kinds := [], alts := [], laidByText := true, laidKinds := [.data, .data, .data, .sentinel, .sentinel], laidTests := true, laidLooks := .later }
def SeglogGrowsCardSaid : Prop := Claim7.holds Tryz.pinned (.plain (OpenSpec.ofChange seglogGrowsSpec)) seglogGrowsCard

/-- THE SECOND FORM's CARD OF 'millracelaw06.SeglogHeads'. -/
def seglogHeadsUptoCard : Claim7 := { stood := { row := seglogHeadsUptoRow, standIns := [], harness := (true, "248064307079d7323c22c640727e376bc0951ba1c1d9fc4ea02650572d15eab1"), looks := true }, kinds := [], alts := [], laidByText := true, laidKinds := [.data, .data, .data, .sentinel, .sentinel], laidTests := true, laidLooks := .later }
def SeglogHeadsUptoCardSaid : Prop := Claim7.holds Tryz.pinned (.plain (OpenSpec.upto seglogHeadsSpec)) seglogHeadsUptoCard

/-- THE SECOND FORM's CARD OF 'millracelaw06.SeglogKeeps'. -/
def seglogKeepsUptoCard : Claim7 := { stood := { row := seglogKeepsUptoRow, standIns := [], harness := (true, "248064307079d7323c22c640727e376bc0951ba1c1d9fc4ea02650572d15eab1"), looks := true }, kinds := [], alts := [], laidByText := true, laidKinds := [.data, .data, .data, .sentinel, .sentinel], laidTests := true, laidLooks := .later }
def SeglogKeepsUptoCardSaid : Prop := Claim7.holds Tryz.pinned (.plain (OpenSpec.upto seglogKeepsSpec)) seglogKeepsUptoCard

/-- THE SECOND FORM's CARD OF 'millracelaw06.SeglogRepairs'. -/
def seglogRepairsUptoCard : Claim7 := { stood := { row := seglogRepairsUptoRow, standIns := [], harness := (true, "248064307079d7323c22c640727e376bc0951ba1c1d9fc4ea02650572d15eab1"), looks := true }, kinds := [], alts := [], laidByText := true, laidKinds := [.data, .data, .data, .sentinel, .sentinel], laidTests := true, laidLooks := .later }
def SeglogRepairsUptoCardSaid : Prop := Claim7.holds Tryz.pinned (.plain (OpenSpec.upto seglogRepairsSpec)) seglogRepairsUptoCard

/-- THE SECOND FORM's CARD OF 'millracelaw06.SeglogGrows'. -/
def seglogGrowsUptoCard : Claim7 := { stood := { row := seglogGrowsUptoRow, standIns := [], harness := (true, "248064307079d7323c22c640727e376bc0951ba1c1d9fc4ea02650572d15eab1"), looks := true }, kinds := [], alts := [], laidByText := true, laidKinds := [.data, .data, .data, .sentinel, .sentinel], laidTests := true, laidLooks := .later }
def SeglogGrowsUptoCardSaid : Prop := Claim7.holds Tryz.pinned (.plain (OpenSpec.upto seglogGrowsSpec)) seglogGrowsUptoCard
end Rows
end Go.Proofs.YtcckoppbophidaaGreatDoor
