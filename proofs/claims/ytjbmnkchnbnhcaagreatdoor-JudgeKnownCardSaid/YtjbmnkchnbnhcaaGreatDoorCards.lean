/-
  DERIVED. GIVEN WITH THE SEED: THE CARDS: each row of YtjbmnkchnbnhcaaGreatDoorRows.lean that lists a variable, with what it lists TIED to the program's text (the seventh form; the later family's looks); each row that meets fmt, with fmt's text TOLD by the authors' own Lean function (tested against real Go, not proved from fmt's source: count such statements apart). THE CARD IS WHAT COUNTS. Prove the row's statement (the work); the ties are given (YtjbmnkchnbnhcaaGreatDoorTie.lean); close each card by the builder's one call (the guide's Derived/Test/ToyasCard.lean, 'card_holds'). Laid BY PROGRAM, IN A SANDBOX (cutbox-door.mjs). By AI agents, Wed Nov 11 2026. No macro, syntax, notation, axiom, sorry.
-/
import Derived.Test.YtjbmnkchnbnhcaaGreatDoorRows
import GoSem.ClaimSeven
namespace Go.Proofs.YtjbmnkchnbnhcaaGreatDoor
namespace Rows

/-- THE TIED CARD OF 'warplaw22.JudgeMade'. -/
def judgeMadeCard : Claim7 := { stood := { row := judgeMadeRow, standIns := [], harness := (true, "0c5117aab280a03283b6163fa001e064d0f12675d4bcbf1b30bf740df7732e37"), looks := false }, kinds := [], alts := [], laidByText := true, laidKinds := [.data, .data, .data], laidTests := true, laidLooks := .later }
def JudgeMadeCardSaid : Prop := Claim7.holds Tryz.pinned (.plain (OpenSpec.ofChange judgeMadeSpec)) judgeMadeCard

/-- THE TIED CARD OF 'warplaw22.JudgeBelow'. -/
def judgeBelowCard : Claim7 := { stood := { row := judgeBelowRow, standIns := [], harness := (true, "0c5117aab280a03283b6163fa001e064d0f12675d4bcbf1b30bf740df7732e37"), looks := false }, kinds := [], alts := [], laidByText := true, laidKinds := [.data, .data, .data], laidTests := true, laidLooks := .later }
def JudgeBelowCardSaid : Prop := Claim7.holds Tryz.pinned (.plain (OpenSpec.ofChange judgeBelowSpec)) judgeBelowCard

/-- THE TIED CARD OF 'warplaw22.JudgeKnown'. -/
def judgeKnownCard : Claim7 := { stood := { row := judgeKnownRow, standIns := [], harness := (true, "0c5117aab280a03283b6163fa001e064d0f12675d4bcbf1b30bf740df7732e37"), looks := false }, kinds := [], alts := [], laidByText := true, laidKinds := [.data, .data, .data], laidTests := true, laidLooks := .later }
def JudgeKnownCardSaid : Prop := Claim7.holds Tryz.pinned (.plain (OpenSpec.ofChange judgeKnownSpec)) judgeKnownCard

/-- THE SECOND FORM's CARD OF 'warplaw22.JudgeMade'. -/
def judgeMadeUptoCard : Claim7 := { stood := { row := judgeMadeUptoRow, standIns := [], harness := (true, "0c5117aab280a03283b6163fa001e064d0f12675d4bcbf1b30bf740df7732e37"), looks := false }, kinds := [], alts := [], laidByText := true, laidKinds := [.data, .data, .data], laidTests := true, laidLooks := .later }
def JudgeMadeUptoCardSaid : Prop := Claim7.holds Tryz.pinned (.plain (OpenSpec.upto judgeMadeSpec)) judgeMadeUptoCard

/-- THE SECOND FORM's CARD OF 'warplaw22.JudgeBelow'. -/
def judgeBelowUptoCard : Claim7 := { stood := { row := judgeBelowUptoRow, standIns := [], harness := (true, "0c5117aab280a03283b6163fa001e064d0f12675d4bcbf1b30bf740df7732e37"), looks := false }, kinds := [], alts := [], laidByText := true, laidKinds := [.data, .data, .data], laidTests := true, laidLooks := .later }
def JudgeBelowUptoCardSaid : Prop := Claim7.holds Tryz.pinned (.plain (OpenSpec.upto judgeBelowSpec)) judgeBelowUptoCard

/-- THE SECOND FORM's CARD OF 'warplaw22.JudgeKnown'. -/
def judgeKnownUptoCard : Claim7 := { stood := { row := judgeKnownUptoRow, standIns := [], harness := (true, "0c5117aab280a03283b6163fa001e064d0f12675d4bcbf1b30bf740df7732e37"), looks := false }, kinds := [], alts := [], laidByText := true, laidKinds := [.data, .data, .data], laidTests := true, laidLooks := .later }
def JudgeKnownUptoCardSaid : Prop := Claim7.holds Tryz.pinned (.plain (OpenSpec.upto judgeKnownSpec)) judgeKnownUptoCard
end Rows
end Go.Proofs.YtjbmnkchnbnhcaaGreatDoor
