/-
  DERIVED. GIVEN WITH THE SEED: THE CARDS: each row of YtmhggdoanajboaaDoorRows.lean that lists a variable, with what it lists TIED to the program's text (the seventh form; the later family's looks); each row that meets fmt, with fmt's text TOLD by the authors' own Lean function (tested against real Go, not proved from fmt's source: count such statements apart). THE CARD IS WHAT COUNTS. Prove the row's statement (the work); the ties are given (YtmhggdoanajboaaDoorTie.lean); close each card by the builder's one call (the guide's Derived/Test/ToyasCard.lean, 'card_holds'). Laid BY PROGRAM, IN A SANDBOX (cutbox-door.mjs). By AI agents, Wed Nov 11 2026. No macro, syntax, notation, axiom, sorry.
-/
import Derived.Test.YtmhggdoanajboaaDoorRows
import GoSem.ClaimSeven
namespace Go.Proofs.YtmhggdoanajboaaDoor
namespace Rows

/-- THE TIED CARD OF 'warplaw17.TermAll'. -/
def termAllCard : Claim7 := { stood := { row := termAllRow, standIns := [], harness := (true, "b6e78067806e8a17d83f3644277aadf846e69e496db8c149e025d27178472270"), looks := false }, kinds := [], alts := [], laidByText := true, laidKinds := [.data, .data, .data], laidTests := true, laidLooks := .later }
def TermAllCardSaid : Prop := Claim7.holds Tryd.pinned (.plain (OpenSpec.ofChange termAllSpec)) termAllCard

/-- THE TIED CARD OF 'warplaw19.SchemeAll'. -/
def schemeAllCard : Claim7 := { stood := { row := schemeAllRow, standIns := [], harness := (true, "b6e78067806e8a17d83f3644277aadf846e69e496db8c149e025d27178472270"), looks := false }, kinds := [], alts := [], laidByText := true, laidKinds := [.data, .data, .data], laidTests := true, laidLooks := .later }
def SchemeAllCardSaid : Prop := Claim7.holds Tryd.pinned (.plain (OpenSpec.ofChange schemeAllSpec)) schemeAllCard

/-- THE SECOND FORM's CARD OF 'warplaw17.TermAll'. -/
def termAllUptoCard : Claim7 := { stood := { row := termAllUptoRow, standIns := [], harness := (true, "b6e78067806e8a17d83f3644277aadf846e69e496db8c149e025d27178472270"), looks := false }, kinds := [], alts := [], laidByText := true, laidKinds := [.data, .data, .data], laidTests := true, laidLooks := .later }
def TermAllUptoCardSaid : Prop := Claim7.holds Tryd.pinned (.plain (OpenSpec.upto termAllSpec)) termAllUptoCard

/-- THE SECOND FORM's CARD OF 'warplaw19.SchemeAll'. -/
def schemeAllUptoCard : Claim7 := { stood := { row := schemeAllUptoRow, standIns := [], harness := (true, "b6e78067806e8a17d83f3644277aadf846e69e496db8c149e025d27178472270"), looks := false }, kinds := [], alts := [], laidByText := true, laidKinds := [.data, .data, .data], laidTests := true, laidLooks := .later }
def SchemeAllUptoCardSaid : Prop := Claim7.holds Tryd.pinned (.plain (OpenSpec.upto schemeAllSpec)) schemeAllUptoCard
end Rows
end Go.Proofs.YtmhggdoanajboaaDoor
