/-
  DERIVED. GIVEN WITH THE SEED: THE CARDS: each row of YtldmeogadmgkiaaDoorRows.lean that lists a variable, with what it lists TIED to the program's text (the seventh form; the later family's looks); each row that meets fmt, with fmt's text TOLD by the authors' own Lean function (tested against real Go, not proved from fmt's source: count such statements apart). THE CARD IS WHAT COUNTS. Prove the row's statement (the work); the ties are given (YtldmeogadmgkiaaDoorTie.lean); close each card by the builder's one call (the guide's Derived/Test/ToyasCard.lean, 'card_holds'). Laid BY PROGRAM, IN A SANDBOX (cutbox-door.mjs). By AI agents, Wed Nov 11 2026. No macro, syntax, notation, axiom, sorry.
-/
import Derived.Test.YtldmeogadmgkiaaDoorRows
import GoSem.ClaimSeven
namespace Go.Proofs.YtldmeogadmgkiaaDoor
namespace Rows

/-- THE TIED CARD OF 'wainwrightlaw01.MouldTexts'. -/
def mouldTextsCard : Claim7 := { stood := { row := mouldTextsRow, standIns := [], harness := (true, "d275813e3d4a1d32f4189b9a58109efc11484ade89b02dca2b40e3c70dcfc7ee"), looks := false }, kinds := [], alts := [], laidByText := true, laidKinds := [.data, .pinned], laidTests := true, laidLooks := .later }
def MouldTextsCardSaid : Prop := Claim7.holds Tryd.pinned (.plain (OpenSpec.ofChange mouldTextsSpec)) mouldTextsCard

/-- THE SECOND FORM's CARD OF 'wainwrightlaw01.MouldTexts'. -/
def mouldTextsUptoCard : Claim7 := { stood := { row := mouldTextsUptoRow, standIns := [], harness := (true, "d275813e3d4a1d32f4189b9a58109efc11484ade89b02dca2b40e3c70dcfc7ee"), looks := false }, kinds := [], alts := [], laidByText := true, laidKinds := [.data, .pinned], laidTests := true, laidLooks := .later }
def MouldTextsUptoCardSaid : Prop := Claim7.holds Tryd.pinned (.plain (OpenSpec.upto mouldTextsSpec)) mouldTextsUptoCard
end Rows
end Go.Proofs.YtldmeogadmgkiaaDoor
