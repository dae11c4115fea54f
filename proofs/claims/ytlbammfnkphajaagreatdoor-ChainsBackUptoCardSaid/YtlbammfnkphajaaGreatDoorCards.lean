/-
  DERIVED. GIVEN WITH THE SEED: THE CARDS: each row of YtlbammfnkphajaaGreatDoorRows.lean that lists a variable, with what it lists TIED to the program's text (the seventh form; the later family's looks); each row that meets fmt, with fmt's text TOLD by the authors' own Lean function (tested against real Go, not proved from fmt's source: count such statements apart). THE CARD IS WHAT COUNTS. Prove the row's statement (the work); the ties are given (YtlbammfnkphajaaGreatDoorTie.lean); close each card by the builder's one call (the guide's Derived/Test/ToyasCard.lean, 'card_holds'). Laid BY PROGRAM, IN A SANDBOX (cutbox-door.mjs). By AI agents, Wed Nov 11 2026. No macro, syntax, notation, axiom, sorry.
-/
import Derived.Test.YtlbammfnkphajaaGreatDoorRows
import GoSem.ClaimSeven
namespace Go.Proofs.YtlbammfnkphajaaGreatDoor
namespace Rows

/-- THE TIED CARD OF 'wainwrightlaw15.RunsApart'. -/
def runsApartCard : Claim7 := { stood := { row := runsApartRow, standIns := [], harness := (true, "2de6d8563729a47c7ab7246fe74bc36494a1849e2cdacd8ee141e044004e8e8d"), looks := false }, kinds := [], alts := [], laidByText := true, laidKinds := [.data, .pinned], laidTests := true, laidLooks := .later }
def RunsApartCardSaid : Prop := Claim7.holds Tryz.pinned (.plain (OpenSpec.ofChange runsApartSpec)) runsApartCard

/-- THE TIED CARD OF 'wainwrightlaw15.RunsOdd'. -/
def runsOddCard : Claim7 := { stood := { row := runsOddRow, standIns := [], harness := (true, "2de6d8563729a47c7ab7246fe74bc36494a1849e2cdacd8ee141e044004e8e8d"), looks := false }, kinds := [], alts := [], laidByText := true, laidKinds := [.data, .pinned], laidTests := true, laidLooks := .later }
def RunsOddCardSaid : Prop := Claim7.holds Tryz.pinned (.plain (OpenSpec.ofChange runsOddSpec)) runsOddCard

/-- THE TIED CARD OF 'wainwrightlaw15.RunsDrop'. -/
def runsDropCard : Claim7 := { stood := { row := runsDropRow, standIns := [], harness := (true, "2de6d8563729a47c7ab7246fe74bc36494a1849e2cdacd8ee141e044004e8e8d"), looks := false }, kinds := [], alts := [], laidByText := true, laidKinds := [.data, .pinned], laidTests := true, laidLooks := .later }
def RunsDropCardSaid : Prop := Claim7.holds Tryz.pinned (.plain (OpenSpec.ofChange runsDropSpec)) runsDropCard

/-- THE TIED CARD OF 'wainwrightlaw14.ChainsApart'. -/
def chainsApartCard : Claim7 := { stood := { row := chainsApartRow, standIns := [], harness := (true, "2de6d8563729a47c7ab7246fe74bc36494a1849e2cdacd8ee141e044004e8e8d"), looks := false }, kinds := [], alts := [], laidByText := true, laidKinds := [.data, .pinned], laidTests := true, laidLooks := .later }
def ChainsApartCardSaid : Prop := Claim7.holds Tryz.pinned (.plain (OpenSpec.ofChange chainsApartSpec)) chainsApartCard

/-- THE TIED CARD OF 'wainwrightlaw14.ChainsOdd'. -/
def chainsOddCard : Claim7 := { stood := { row := chainsOddRow, standIns := [], harness := (true, "2de6d8563729a47c7ab7246fe74bc36494a1849e2cdacd8ee141e044004e8e8d"), looks := false }, kinds := [], alts := [], laidByText := true, laidKinds := [.data, .pinned], laidTests := true, laidLooks := .later }
def ChainsOddCardSaid : Prop := Claim7.holds Tryz.pinned (.plain (OpenSpec.ofChange chainsOddSpec)) chainsOddCard

/-- THE TIED CARD OF 'wainwrightlaw14.ChainsDrop'. -/
def chainsDropCard : Claim7 := { stood := { row := chainsDropRow, standIns := [], harness := (true, "2de6d8563729a47c7ab7246fe74bc36494a1849e2cdacd8ee141e044004e8e8d"), looks := false }, kinds := [], alts := [], laidByText := true, laidKinds := [.data, .pinned], laidTests := true, laidLooks := .later }
def ChainsDropCardSaid : Prop := Claim7.holds Tryz.pinned (.plain (OpenSpec.ofChange chainsDropSpec)) chainsDropCard

/-- THE TIED CARD OF 'wainwrightlaw15.RunsBack'. -/
def runsBackCard : Claim7 := { stood := { row := runsBackRow, standIns := [], harness := (true, "2de6d8563729a47c7ab7246fe74bc36494a1849e2cdacd8ee141e044004e8e8d"), looks := false }, kinds := [], alts := [], laidByText := true, laidKinds := [.data, .pinned], laidTests := true, laidLooks := .later }
def RunsBackCardSaid : Prop := Claim7.holds Tryz.pinned (.plain (OpenSpec.ofChange runsBackSpec)) runsBackCard

/-- THE TIED CARD OF 'wainwrightlaw14.ChainsBack'. -/
def chainsBackCard : Claim7 := { stood := { row := chainsBackRow, standIns := [], harness := (true, "2de6d8563729a47c7ab7246fe74bc36494a1849e2cdacd8ee141e044004e8e8d"), looks := false }, kinds := [], alts := [], laidByText := true, laidKinds := [.data, .pinned], laidTests := true, laidLooks := .later }
def ChainsBackCardSaid : Prop := Claim7.holds Tryz.pinned (.plain (OpenSpec.ofChange chainsBackSpec)) chainsBackCard

/-- THE SECOND FORM's CARD OF 'wainwrightlaw15.RunsApart'. -/
def runsApartUptoCard : Claim7 := { stood := { row := runsApartUptoRow, standIns := [], harness := (true, "2de6d8563729a47c7ab7246fe74bc36494a1849e2cdacd8ee141e044004e8e8d"), looks := false }, kinds := [], alts := [], laidByText := true, laidKinds := [.data, .pinned], laidTests := true, laidLooks := .later }
def RunsApartUptoCardSaid : Prop := Claim7.holds Tryz.pinned (.plain (OpenSpec.upto runsApartSpec)) runsApartUptoCard

/-- THE SECOND FORM's CARD OF 'wainwrightlaw15.RunsOdd'. -/
def runsOddUptoCard : Claim7 := { stood := { row := runsOddUptoRow, standIns := [], harness := (true, "2de6d8563729a47c7ab7246fe74bc36494a1849e2cdacd8ee141e044004e8e8d"), looks := false }, kinds := [], alts := [], laidByText := true, laidKinds := [.data, .pinned], laidTests := true, laidLooks := .later }
def RunsOddUptoCardSaid : Prop := Claim7.holds Tryz.pinned (.plain (OpenSpec.upto runsOddSpec)) runsOddUptoCard

/-- THE SECOND FORM's CARD OF 'wainwrightlaw15.RunsDrop'. -/
def runsDropUptoCard : Claim7 := { stood := { row := runsDropUptoRow, standIns := [], harness := (true, "2de6d8563729a47c7ab7246fe74bc36494a1849e2cdacd8ee141e044004e8e8d"), looks := false }, kinds := [], alts := [], laidByText := true, laidKinds := [.data, .pinned], laidTests := true, laidLooks := .later }
def RunsDropUptoCardSaid : Prop := Claim7.holds Tryz.pinned (.plain (OpenSpec.upto runsDropSpec)) runsDropUptoCard

/-- THE SECOND FORM's CARD OF 'wainwrightlaw14.ChainsApart'. -/
def chainsApartUptoCard : Claim7 := { stood := { row := chainsApartUptoRow, standIns := [], harness := (true, "2de6d8563729a47c7ab7246fe74bc36494a1849e2cdacd8ee141e044004e8e8d"), looks := false }, kinds := [], alts := [], laidByText := true, laidKinds := [.data, .pinned], laidTests := true, laidLooks := .later }
def ChainsApartUptoCardSaid : Prop := Claim7.holds Tryz.pinned (.plain (OpenSpec.upto chainsApartSpec)) chainsApartUptoCard

/-- THE SECOND FORM's CARD OF 'wainwrightlaw14.ChainsOdd'. -/
def chainsOddUptoCard : Claim7 := { stood := { row := chainsOddUptoRow, standIns := [], harness := (true, "2de6d8563729a47c7ab7246fe74bc36494a1849e2cdacd8ee141e044004e8e8d"), looks := false }, kinds := [], alts := [], laidByText := true, laidKinds := [.data, .pinned], laidTests := true, laidLooks := .later }
def ChainsOddUptoCardSaid : Prop := Claim7.holds Tryz.pinned (.plain (OpenSpec.upto chainsOddSpec)) chainsOddUptoCard

/-- THE SECOND FORM's CARD OF 'wainwrightlaw14.ChainsDrop'. -/
def chainsDropUptoCard : Claim7 := { stood := { row := chainsDropUptoRow, standIns := [], harness := (true, "2de6d8563729a47c7ab7246fe74bc36494a1849e2cdacd8ee141e044004e8e8d"), looks := false }, kinds := [], alts := [], laidByText := true, laidKinds := [.data, .pinned], laidTests := true, laidLooks := .later }
def ChainsDropUptoCardSaid : Prop := Claim7.holds Tryz.pinned (.plain (OpenSpec.upto chainsDropSpec)) chainsDropUptoCard

/-- THE SECOND FORM's CARD OF 'wainwrightlaw15.RunsBack'. -/
def runsBackUptoCard : Claim7 := { stood := { row := runsBackUptoRow, standIns := [], harness := (true, "2de6d8563729a47c7ab7246fe74bc36494a1849e2cdacd8ee141e044004e8e8d"), looks := false }, kinds := [], alts := [], laidByText := true, laidKinds := [.data, .pinned], laidTests := true, laidLooks := .later }
def RunsBackUptoCardSaid : Prop := Claim7.holds Tryz.pinned (.plain (OpenSpec.upto runsBackSpec)) runsBackUptoCard

/-- THE SECOND FORM's CARD OF 'wainwrightlaw14.ChainsBack'. -/
def chainsBackUptoCard : Claim7 := { stood := { row := chainsBackUptoRow, standIns := [], harness := (true, "2de6d8563729a47c7ab7246fe74bc36494a1849e2cdacd8ee141e044004e8e8d"), looks := false }, kinds := [], alts := [], laidByText := true, laidKinds := [.data, .pinned], laidTests := true, laidLooks := .later }
def ChainsBackUptoCardSaid : Prop := Claim7.holds Tryz.pinned (.plain (OpenSpec.upto chainsBackSpec)) chainsBackUptoCard
end Rows
end Go.Proofs.YtlbammfnkphajaaGreatDoor
