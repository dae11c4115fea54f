/-
  DERIVED. GIVEN WITH THE SEED: THE CARDS: each row of YtnbhmifidhoblaaDoorRows.lean that lists a variable, with what it lists TIED to the program's text (the seventh form; the later family's looks); each row that meets fmt, with fmt's text TOLD by the authors' own Lean function (tested against real Go, not proved from fmt's source: count such statements apart). THE CARD IS WHAT COUNTS. Prove the row's statement (the work); the ties are given (YtnbhmifidhoblaaDoorTie.lean); close each card by the builder's one call (the guide's Derived/Test/ToyasCard.lean, 'card_holds'). Laid BY PROGRAM, IN A SANDBOX (cutbox-door.mjs). By AI agents, Wed Nov 11 2026. No macro, syntax, notation, axiom, sorry.
-/
import Derived.Test.YtnbhmifidhoblaaDoorRows
import GoSem.ClaimSeven
namespace Go.Proofs.YtnbhmifidhoblaaDoor
namespace Rows

/-- THE TIED CARD OF 'wainwrightlaw07.RollsChange'. -/
def rollsChangeCard : Claim7 := { stood := { row := rollsChangeRow, standIns := [], harness := (true, "4090a84cbbed9bb58390a17e28e16ae7e7f754a997db7f332339fd1cd448a0b9"), looks := false }, kinds := [], alts := [], laidByText := true, laidKinds := [.data, .pinned], laidTests := true, laidLooks := .later }
def RollsChangeCardSaid : Prop := Claim7.holds Tryd.pinned (.plain (OpenSpec.ofChange rollsChangeSpec)) rollsChangeCard

/-- THE TIED CARD OF 'wainwrightlaw07.RollsStay'. -/
def rollsStayCard : Claim7 := { stood := { row := rollsStayRow, standIns := [], harness := (true, "4090a84cbbed9bb58390a17e28e16ae7e7f754a997db7f332339fd1cd448a0b9"), looks := false }, kinds := [], alts := [], laidByText := true, laidKinds := [.data, .pinned], laidTests := true, laidLooks := .later }
def RollsStayCardSaid : Prop := Claim7.holds Tryd.pinned (.plain (OpenSpec.ofChange rollsStaySpec)) rollsStayCard

/-- THE TIED CARD OF 'wainwrightlaw07.RollsTell'. -/
def rollsTellCard : Claim7 := { stood := { row := rollsTellRow, standIns := [], harness := (true, "4090a84cbbed9bb58390a17e28e16ae7e7f754a997db7f332339fd1cd448a0b9"), looks := false }, kinds := [], alts := [], laidByText := true, laidKinds := [.data, .pinned], laidTests := true, laidLooks := .later }
def RollsTellCardSaid : Prop := Claim7.holds Tryd.pinned (.plain (OpenSpec.ofChange rollsTellSpec)) rollsTellCard

/-- THE TIED CARD OF 'wainwrightlaw07.RollsPlay'. -/
def rollsPlayCard : Claim7 := { stood := { row := rollsPlayRow, standIns := [], harness := (true, "4090a84cbbed9bb58390a17e28e16ae7e7f754a997db7f332339fd1cd448a0b9"), looks := false }, kinds := [], alts := [], laidByText := true, laidKinds := [.data, .pinned], laidTests := true, laidLooks := .later }
def RollsPlayCardSaid : Prop := Claim7.holds Tryd.pinned (.plain (OpenSpec.ofChange rollsPlaySpec)) rollsPlayCard

/-- THE TIED CARD OF 'wainwrightlaw07.RollsBlocks'. -/
def rollsBlocksCard : Claim7 := { stood := { row := rollsBlocksRow, standIns := [], harness := (true, "4090a84cbbed9bb58390a17e28e16ae7e7f754a997db7f332339fd1cd448a0b9"), looks := false }, kinds := [], alts := [], laidByText := true, laidKinds := [.data, .pinned], laidTests := true, laidLooks := .later }
def RollsBlocksCardSaid : Prop := Claim7.holds Tryd.pinned (.plain (OpenSpec.ofChange rollsBlocksSpec)) rollsBlocksCard

/-- THE SECOND FORM's CARD OF 'wainwrightlaw07.RollsChange'. -/
def rollsChangeUptoCard : Claim7 := { stood := { row := rollsChangeUptoRow, standIns := [], harness := (true, "4090a84cbbed9bb58390a17e28e16ae7e7f754a997db7f332339fd1cd448a0b9"), looks := false }, kinds := [], alts := [], laidByText := true, laidKinds := [.data, .pinned], laidTests := true, laidLooks := .later }
def RollsChangeUptoCardSaid : Prop := Claim7.holds Tryd.pinned (.plain (OpenSpec.upto rollsChangeSpec)) rollsChangeUptoCard

/-- THE SECOND FORM's CARD OF 'wainwrightlaw07.RollsStay'. -/
def rollsStayUptoCard : Claim7 := { stood := { row := rollsStayUptoRow, standIns := [], harness := (true, "4090a84cbbed9bb58390a17e28e16ae7e7f754a997db7f332339fd1cd448a0b9"), looks := false }, kinds := [], alts := [], laidByText := true, laidKinds := [.data, .pinned], laidTests := true, laidLooks := .later }
def RollsStayUptoCardSaid : Prop := Claim7.holds Tryd.pinned (.plain (OpenSpec.upto rollsStaySpec)) rollsStayUptoCard

/-- THE SECOND FORM's CARD OF 'wainwrightlaw07.RollsTell'. -/
def rollsTellUptoCard : Claim7 := { stood := { row := rollsTellUptoRow, standIns := [], harness := (true, "4090a84cbbed9bb58390a17e28e16ae7e7f754a997db7f332339fd1cd448a0b9"), looks := false }, kinds := [], alts := [], laidByText := true, laidKinds := [.data, .pinned], laidTests := true, laidLooks := .later }
def RollsTellUptoCardSaid : Prop := Claim7.holds Tryd.pinned (.plain (OpenSpec.upto rollsTellSpec)) rollsTellUptoCard

/-- THE SECOND FORM's CARD OF 'wainwrightlaw07.RollsPlay'. -/
def rollsPlayUptoCard : Claim7 := { stood := { row := rollsPlayUptoRow, standIns := [], harness := (true, "4090a84cbbed9bb58390a17e28e16ae7e7f754a997db7f332339fd1cd448a0b9"), looks := false }, kinds := [], alts := [], laidByText := true, laidKinds := [.data, .pinned], laidTests := true, laidLooks := .later }
def RollsPlayUptoCardSaid : Prop := Claim7.holds Tryd.pinned (.plain (OpenSpec.upto rollsPlaySpec)) rollsPlayUptoCard

/-- THE SECOND FORM's CARD OF 'wainwrightlaw07.RollsBlocks'. -/
def rollsBlocksUptoCard : Claim7 := { stood := { row := rollsBlocksUptoRow, standIns := [], harness := (true, "4090a84cbbed9bb58390a17e28e16ae7e7f754a997db7f332339fd1cd448a0b9"), looks := false }, kinds := [], alts := [], laidByText := true, laidKinds := [.data, .pinned], laidTests := true, laidLooks := .later }
def RollsBlocksUptoCardSaid : Prop := Claim7.holds Tryd.pinned (.plain (OpenSpec.upto rollsBlocksSpec)) rollsBlocksUptoCard
end Rows
end Go.Proofs.YtnbhmifidhoblaaDoor
