/-
  DERIVED. GIVEN WITH THE SEED: THE CARDS: each row of YtmfmofkehnmimaaDoorRows.lean that lists a variable, with what it lists TIED to the program's text (the seventh form; the later family's looks); each row that meets fmt, with fmt's text TOLD by the authors' own Lean function (tested against real Go, not proved from fmt's source: count such statements apart). THE CARD IS WHAT COUNTS. Prove the row's statement (the work); the ties are given (YtmfmofkehnmimaaDoorTie.lean); close each card by the builder's one call (the guide's Derived/Test/ToyasCard.lean, 'card_holds'). Laid BY PROGRAM, IN A SANDBOX (cutbox-door.mjs). By AI agents, Wed Nov 11 2026. No macro, syntax, notation, axiom, sorry.
-/
import Derived.Test.YtmfmofkehnmimaaDoorRows
import GoSem.ClaimSeven
namespace Go.Proofs.YtmfmofkehnmimaaDoor
namespace Rows

/-- THE TIED CARD OF 'warplaw17.TermTexts'. -/
def termTextsCard : Claim7 := { stood := { row := termTextsRow, standIns := [], harness := (true, "7b6f388844ebb277f55b9282efb295f6471818899317846d02e231a16fcadc06"), looks := false }, kinds := [], alts := [], laidByText := true, laidKinds := [.data, .data, .data], laidTests := true, laidLooks := .later }
def TermTextsCardSaid : Prop := Claim7.holds Tryd.pinned (.plain (OpenSpec.ofChange termTextsSpec)) termTextsCard

/-- THE TIED CARD OF 'warplaw17.TermSubst'. -/
def termSubstCard : Claim7 := { stood := { row := termSubstRow, standIns := [], harness := (true, "7b6f388844ebb277f55b9282efb295f6471818899317846d02e231a16fcadc06"), looks := false }, kinds := [], alts := [], laidByText := true, laidKinds := [.data, .data, .data], laidTests := true, laidLooks := .later }
def TermSubstCardSaid : Prop := Claim7.holds Tryd.pinned (.plain (OpenSpec.ofChange termSubstSpec)) termSubstCard

/-- THE TIED CARD OF 'warplaw17.TermMade'. -/
def termMadeCard : Claim7 := { stood := { row := termMadeRow, standIns := [], harness := (true, "7b6f388844ebb277f55b9282efb295f6471818899317846d02e231a16fcadc06"), looks := false }, kinds := [], alts := [], laidByText := true, laidKinds := [.data, .data, .data], laidTests := true, laidLooks := .later }
def TermMadeCardSaid : Prop := Claim7.holds Tryd.pinned (.plain (OpenSpec.ofChange termMadeSpec)) termMadeCard

/-- THE TIED CARD OF 'warplaw17.TermSizes'. -/
def termSizesCard : Claim7 := { stood := { row := termSizesRow, standIns := [], harness := (true, "7b6f388844ebb277f55b9282efb295f6471818899317846d02e231a16fcadc06"), looks := false }, kinds := [], alts := [], laidByText := true, laidKinds := [.data, .data, .data], laidTests := true, laidLooks := .later }
def TermSizesCardSaid : Prop := Claim7.holds Tryd.pinned (.plain (OpenSpec.ofChange termSizesSpec)) termSizesCard

/-- THE TIED CARD OF 'warplaw17.TermAll'. -/
def termAllCard : Claim7 := { stood := { row := termAllRow, standIns := [], harness := (true, "7b6f388844ebb277f55b9282efb295f6471818899317846d02e231a16fcadc06"), looks := false }, kinds := [], alts := [], laidByText := true, laidKinds := [.data, .data, .data], laidTests := true, laidLooks := .later }
def TermAllCardSaid : Prop := Claim7.holds Tryd.pinned (.plain (OpenSpec.ofChange termAllSpec)) termAllCard

/-- THE SECOND FORM's CARD OF 'warplaw17.TermTexts'. -/
def termTextsUptoCard : Claim7 := { stood := { row := termTextsUptoRow, standIns := [], harness := (true, "7b6f388844ebb277f55b9282efb295f6471818899317846d02e231a16fcadc06"), looks := false }, kinds := [], alts := [], laidByText := true, laidKinds := [.data, .data, .data], laidTests := true, laidLooks := .later }
def TermTextsUptoCardSaid : Prop := Claim7.holds Tryd.pinned (.plain (OpenSpec.upto termTextsSpec)) termTextsUptoCard

/-- THE SECOND FORM's CARD OF 'warplaw17.TermSubst'. -/
def termSubstUptoCard : Claim7 := { stood := { row := termSubstUptoRow, standIns := [], harness := (true, "7b6f388844ebb277f55b9282efb295f6471818899317846d02e231a16fcadc06"), looks := false }, kinds := [], alts := [], laidByText := true, laidKinds := [.data, .data, .data], laidTests := true, laidLooks := .later }
def TermSubstUptoCardSaid : Prop := Claim7.holds Tryd.pinned (.plain (OpenSpec.upto termSubstSpec)) termSubstUptoCard

/-- THE SECOND FORM's CARD OF 'warplaw17.TermMade'. -/
def termMadeUptoCard : Claim7 := { stood := { row := termMadeUptoRow, standIns := [], harness := (true, "7b6f388844ebb277f55b9282efb295f6471818899317846d02e231a16fcadc06"), looks := false }, kinds := [], alts := [], laidByText := true, laidKinds := [.data, .data, .data], laidTests := true, laidLooks := .later }
def TermMadeUptoCardSaid : Prop := Claim7.holds Tryd.pinned (.plain (OpenSpec.upto termMadeSpec)) termMadeUptoCard

/-- THE SECOND FORM's CARD OF 'warplaw17.TermSizes'. -/
def termSizesUptoCard : Claim7 := { stood := { row := termSizesUptoRow, standIns := [], harness := (true, "7b6f388844ebb277f55b9282efb295f6471818899317846d02e231a16fcadc06"), looks := false }, kinds := [], alts := [], laidByText := true, laidKinds := [.data, .data, .data], laidTests := true, laidLooks := .later }
def TermSizesUptoCardSaid : Prop := Claim7.holds Tryd.pinned (.plain (OpenSpec.upto termSizesSpec)) termSizesUptoCard

/-- THE SECOND FORM's CARD OF 'warplaw17.TermAll'. -/
def termAllUptoCard : Claim7 := { stood := { row := termAllUptoRow, standIns := [], harness := (true, "7b6f388844ebb277f55b9282efb295f6471818899317846d02e231a16fcadc06"), looks := false }, kinds := [], alts := [], laidByText := true, laidKinds := [.data, .data, .data], laidTests := true, laidLooks := .later }
def TermAllUptoCardSaid : Prop := Claim7.holds Tryd.pinned (.plain (OpenSpec.upto termAllSpec)) termAllUptoCard
end Rows
end Go.Proofs.YtmfmofkehnmimaaDoor
