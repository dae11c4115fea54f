/-
  DERIVED. GIVEN WITH THE SEED: THE CARDS: each row of YtiodpeekbeahlaaGreatDoorRows.lean that lists a variable, with what it lists TIED to the program's text (the seventh form; the later family's looks); each row that meets fmt, with fmt's text TOLD by the authors' own Lean function (tested against real Go, not proved from fmt's source: count such statements apart). THE CARD IS WHAT COUNTS. Prove the row's statement (the work); the ties are given (YtiodpeekbeahlaaGreatDoorTie.lean); close each card by the builder's one call (the guide's Derived/Test/ToyasCard.lean, 'card_holds'). Laid BY PROGRAM, IN A SANDBOX (cutbox-door.mjs). By AI agents, Wed Nov 11 2026. No macro, syntax, notation, axiom, sorry.
-/
import Derived.Test.YtiodpeekbeahlaaGreatDoorRows
import GoSem.ClaimSeven
namespace Go.Proofs.YtiodpeekbeahlaaGreatDoor
namespace Rows

/-- THE TIED CARD OF 'wainwrightlaw11.LogNil'. -/
def logNilCard : Claim7 := { stood := { row := logNilRow, standIns := [], harness := (true, "faf0fc215d36ae8667fcf704827ebf736383f4fe5341aab374fb52b82074bfc5"), looks := false }, kinds := [], alts := [], laidByText := true, laidKinds := [.data, .pinned], laidTests := true, laidLooks := .later }
def LogNilCardSaid : Prop := Claim7.holds Tryz.pinned (.plain (OpenSpec.ofChange logNilSpec)) logNilCard

/-- THE TIED CARD OF 'wainwrightlaw11.LogCommits'. -/
def logCommitsCard : Claim7 := { stood := { row := logCommitsRow, standIns := [], harness := (true, "faf0fc215d36ae8667fcf704827ebf736383f4fe5341aab374fb52b82074bfc5"), looks := false }, kinds := [], alts := [], laidByText := true, laidKinds := [.data, .pinned], laidTests := true, laidLooks := .later }
def LogCommitsCardSaid : Prop := Claim7.holds Tryz.pinned (.plain (OpenSpec.ofChange logCommitsSpec)) logCommitsCard

/-- THE TIED CARD OF 'wainwrightlaw11.LogOpens'. -/
def logOpensCard : Claim7 := { stood := { row := logOpensRow, standIns := [], harness := (true, "faf0fc215d36ae8667fcf704827ebf736383f4fe5341aab374fb52b82074bfc5"), looks := false }, kinds := [], alts := [], laidByText := true, laidKinds := [.data, .pinned], laidTests := true, laidLooks := .later }
def LogOpensCardSaid : Prop := Claim7.holds Tryz.pinned (.plain (OpenSpec.ofChange logOpensSpec)) logOpensCard

/-- THE TIED CARD OF 'wainwrightlaw11.LogTwice'. -/
def logTwiceCard : Claim7 := { stood := { row := logTwiceRow, standIns := [], harness := (true, "faf0fc215d36ae8667fcf704827ebf736383f4fe5341aab374fb52b82074bfc5"), looks := false }, kinds := [], alts := [], laidByText := true, laidKinds := [.data, .pinned], laidTests := true, laidLooks := .later }
def LogTwiceCardSaid : Prop := Claim7.holds Tryz.pinned (.plain (OpenSpec.ofChange logTwiceSpec)) logTwiceCard

/-- THE TIED CARD OF 'wainwrightlaw13.StockOnce'. -/
def stockOnceCard : Claim7 := { stood := { row := stockOnceRow, standIns := [], harness := (true, "faf0fc215d36ae8667fcf704827ebf736383f4fe5341aab374fb52b82074bfc5"), looks := false }, kinds := [], alts := [], laidByText := true, laidKinds := [.data, .pinned], laidTests := true, laidLooks := .later }
def StockOnceCardSaid : Prop := Claim7.holds Tryz.pinned (.plain (OpenSpec.ofChange stockOnceSpec)) stockOnceCard

/-- THE TIED CARD OF 'wainwrightlaw13.StockRow'. -/
def stockRowCard : Claim7 := { stood := { row := stockRowRow, standIns := [], harness := (true, "faf0fc215d36ae8667fcf704827ebf736383f4fe5341aab374fb52b82074bfc5"), looks := false }, kinds := [], alts := [], laidByText := true, laidKinds := [.data, .pinned], laidTests := true, laidLooks := .later }
def StockRowCardSaid : Prop := Claim7.holds Tryz.pinned (.plain (OpenSpec.ofChange stockRowSpec)) stockRowCard

/-- THE TIED CARD OF 'wainwrightlaw13.StockPlays'. -/
def stockPlaysCard : Claim7 := { stood := { row := stockPlaysRow, standIns := [], harness := (true, "faf0fc215d36ae8667fcf704827ebf736383f4fe5341aab374fb52b82074bfc5"), looks := false }, kinds := [], alts := [], laidByText := true, laidKinds := [.data, .pinned], laidTests := true, laidLooks := .later }
def StockPlaysCardSaid : Prop := Claim7.holds Tryz.pinned (.plain (OpenSpec.ofChange stockPlaysSpec)) stockPlaysCard

/-- THE TIED CARD OF 'wainwrightlaw13.StockNone'. -/
def stockNoneCard : Claim7 := { stood := { row := stockNoneRow, standIns := [], harness := (true, "faf0fc215d36ae8667fcf704827ebf736383f4fe5341aab374fb52b82074bfc5"), looks := false }, kinds := [], alts := [], laidByText := true, laidKinds := [.data, .pinned], laidTests := true, laidLooks := .later }
def StockNoneCardSaid : Prop := Claim7.holds Tryz.pinned (.plain (OpenSpec.ofChange stockNoneSpec)) stockNoneCard

/-- THE TIED CARD OF 'wainwrightlaw12.DealNil'. -/
def dealNilCard : Claim7 := { stood := { row := dealNilRow, standIns := [], harness := (true, "faf0fc215d36ae8667fcf704827ebf736383f4fe5341aab374fb52b82074bfc5"), looks := false }, kinds := [], alts := [], laidByText := true, laidKinds := [.data, .pinned], laidTests := true, laidLooks := .later }
def DealNilCardSaid : Prop := Claim7.holds Tryz.pinned (.plain (OpenSpec.ofChange dealNilSpec)) dealNilCard

/-- THE TIED CARD OF 'wainwrightlaw12.DealPlays'. -/
def dealPlaysCard : Claim7 := { stood := { row := dealPlaysRow, standIns := [], harness := (true, "faf0fc215d36ae8667fcf704827ebf736383f4fe5341aab374fb52b82074bfc5"), looks := false }, kinds := [], alts := [], laidByText := true, laidKinds := [.data, .pinned], laidTests := true, laidLooks := .later }
def DealPlaysCardSaid : Prop := Claim7.holds Tryz.pinned (.plain (OpenSpec.ofChange dealPlaysSpec)) dealPlaysCard

/-- THE TIED CARD OF 'wainwrightlaw12.DealCards'. -/
def dealCardsCard : Claim7 := { stood := { row := dealCardsRow, standIns := [], harness := (true, "faf0fc215d36ae8667fcf704827ebf736383f4fe5341aab374fb52b82074bfc5"), looks := false }, kinds := [], alts := [], laidByText := true, laidKinds := [.data, .pinned], laidTests := true, laidLooks := .later }
def DealCardsCardSaid : Prop := Claim7.holds Tryz.pinned (.plain (OpenSpec.ofChange dealCardsSpec)) dealCardsCard

/-- THE TIED CARD OF 'wainwrightlaw12.DealApart'. -/
def dealApartCard : Claim7 := { stood := { row := dealApartRow, standIns := [], harness := (true, "faf0fc215d36ae8667fcf704827ebf736383f4fe5341aab374fb52b82074bfc5"), looks := false }, kinds := [], alts := [], laidByText := true, laidKinds := [.data, .pinned], laidTests := true, laidLooks := .later }
def DealApartCardSaid : Prop := Claim7.holds Tryz.pinned (.plain (OpenSpec.ofChange dealApartSpec)) dealApartCard

/-- THE SECOND FORM's CARD OF 'wainwrightlaw11.LogNil'. -/
def logNilUptoCard : Claim7 := { stood := { row := logNilUptoRow, standIns := [], harness := (true, "faf0fc215d36ae8667fcf704827ebf736383f4fe5341aab374fb52b82074bfc5"), looks := false }, kinds := [], alts := [], laidByText := true, laidKinds := [.data, .pinned], laidTests := true, laidLooks := .later }
def LogNilUptoCardSaid : Prop := Claim7.holds Tryz.pinned (.plain (OpenSpec.upto logNilSpec)) logNilUptoCard

/-- THE SECOND FORM's CARD OF 'wainwrightlaw11.LogCommits'. -/
def logCommitsUptoCard : Claim7 := { stood := { row := logCommitsUptoRow, standIns := [], harness := (true, "faf0fc215d36ae8667fcf704827ebf736383f4fe5341aab374fb52b82074bfc5"), looks := false }, kinds := [], alts := [], laidByText := true, laidKinds := [.data, .pinned], laidTests := true, laidLooks := .later }
def LogCommitsUptoCardSaid : Prop := Claim7.holds Tryz.pinned (.plain (OpenSpec.upto logCommitsSpec)) logCommitsUptoCard

/-- THE SECOND FORM's CARD OF 'wainwrightlaw11.LogOpens'. -/
def logOpensUptoCard : Claim7 := { stood := { row := logOpensUptoRow, standIns := [], harness := (true, "faf0fc215d36ae8667fcf704827ebf736383f4fe5341aab374fb52b82074bfc5"), looks := false }, kinds := [], alts := [], laidByText := true, laidKinds := [.data, .pinned], laidTests := true, laidLooks := .later }
def LogOpensUptoCardSaid : Prop := Claim7.holds Tryz.pinned (.plain (OpenSpec.upto logOpensSpec)) logOpensUptoCard

/-- THE SECOND FORM's CARD OF 'wainwrightlaw11.LogTwice'. -/
def logTwiceUptoCard : Claim7 := { stood := { row := logTwiceUptoRow, standIns := [], harness := (true, "faf0fc215d36ae8667fcf704827ebf736383f4fe5341aab374fb52b82074bfc5"), looks := false }, kinds := [], alts := [], laidByText := true, laidKinds := [.data, .pinned], laidTests := true, laidLooks := .later }
def LogTwiceUptoCardSaid : Prop := Claim7.holds Tryz.pinned (.plain (OpenSpec.upto logTwiceSpec)) logTwiceUptoCard

/-- THE SECOND FORM's CARD OF 'wainwrightlaw13.StockOnce'. -/
def stockOnceUptoCard : Claim7 := { stood := { row := stockOnceUptoRow, standIns := [], harness := (true, "faf0fc215d36ae8667fcf704827ebf736383f4fe5341aab374fb52b82074bfc5"), looks := false }, kinds := [], alts := [], laidByText := true, laidKinds := [.data, .pinned], laidTests := true, laidLooks := .later }
def StockOnceUptoCardSaid : Prop := Claim7.holds Tryz.pinned (.plain (OpenSpec.upto stockOnceSpec)) stockOnceUptoCard

/-- THE SECOND FORM's CARD OF 'wainwrightlaw13.StockRow'. -/
def stockRowUptoCard : Claim7 := { stood := { row := stockRowUptoRow, standIns := [], harness := (true, "faf0fc215d36ae8667fcf704827ebf736383f4fe5341aab374fb52b82074bfc5"), looks := false }, kinds := [], alts := [], laidByText := true, laidKinds := [.data, .pinned], laidTests := true, laidLooks := .later }
def StockRowUptoCardSaid : Prop := Claim7.holds Tryz.pinned (.plain (OpenSpec.upto stockRowSpec)) stockRowUptoCard

/-- THE SECOND FORM's CARD OF 'wainwrightlaw13.StockPlays'. -/
def stockPlaysUptoCard : Claim7 := { stood := { row := stockPlaysUptoRow, standIns := [], harness := (true, "faf0fc215d36ae8667fcf704827ebf736383f4fe5341aab374fb52b82074bfc5"), looks := false }, kinds := [], alts := [], laidByText := true, laidKinds := [.data, .pinned], laidTests := true, laidLooks := .later }
def StockPlaysUptoCardSaid : Prop := Claim7.holds Tryz.pinned (.plain (OpenSpec.upto stockPlaysSpec)) stockPlaysUptoCard

/-- THE SECOND FORM's CARD OF 'wainwrightlaw13.StockNone'. -/
def stockNoneUptoCard : Claim7 := { stood := { row := stockNoneUptoRow, standIns := [], harness := (true, "faf0fc215d36ae8667fcf704827ebf736383f4fe5341aab374fb52b82074bfc5"), looks := false }, kinds := [], alts := [], laidByText := true, laidKinds := [.data, .pinned], laidTests := true, laidLooks := .later }
def StockNoneUptoCardSaid : Prop := Claim7.holds Tryz.pinned (.plain (OpenSpec.upto stockNoneSpec)) stockNoneUptoCard

/-- THE SECOND FORM's CARD OF 'wainwrightlaw12.DealNil'. -/
def dealNilUptoCard : Claim7 := { stood := { row := dealNilUptoRow, standIns := [], harness := (true, "faf0fc215d36ae8667fcf704827ebf736383f4fe5341aab374fb52b82074bfc5"), looks := false }, kinds := [], alts := [], laidByText := true, laidKinds := [.data, .pinned], laidTests := true, laidLooks := .later }
def DealNilUptoCardSaid : Prop := Claim7.holds Tryz.pinned (.plain (OpenSpec.upto dealNilSpec)) dealNilUptoCard

/-- THE SECOND FORM's CARD OF 'wainwrightlaw12.DealPlays'. -/
def dealPlaysUptoCard : Claim7 := { stood := { row := dealPlaysUptoRow, standIns := [], harness := (true, "faf0fc215d36ae8667fcf704827ebf736383f4fe5341aab374fb52b82074bfc5"), looks := false }, kinds := [], alts := [], laidByText := true, laidKinds := [.data, .pinned], laidTests := true, laidLooks := .later }
def DealPlaysUptoCardSaid : Prop := Claim7.holds Tryz.pinned (.plain (OpenSpec.upto dealPlaysSpec)) dealPlaysUptoCard

/-- THE SECOND FORM's CARD OF 'wainwrightlaw12.DealCards'. -/
def dealCardsUptoCard : Claim7 := { stood := { row := dealCardsUptoRow, standIns := [], harness := (true, "faf0fc215d36ae8667fcf704827ebf736383f4fe5341aab374fb52b82074bfc5"), looks := false }, kinds := [], alts := [], laidByText := true, laidKinds := [.data, .pinned], laidTests := true, laidLooks := .later }
def DealCardsUptoCardSaid : Prop := Claim7.holds Tryz.pinned (.plain (OpenSpec.upto dealCardsSpec)) dealCardsUptoCard

/-- THE SECOND FORM's CARD OF 'wainwrightlaw12.DealApart'. -/
def dealApartUptoCard : Claim7 := { stood := { row := dealApartUptoRow, standIns := [], harness := (true, "faf0fc215d36ae8667fcf704827ebf736383f4fe5341aab374fb52b82074bfc5"), looks := false }, kinds := [], alts := [], laidByText := true, laidKinds := [.data, .pinned], laidTests := true, laidLooks := .later }
def DealApartUptoCardSaid : Prop := Claim7.holds Tryz.pinned (.plain (OpenSpec.upto dealApartSpec)) dealApartUptoCard
end Rows
end Go.Proofs.YtiodpeekbeahlaaGreatDoor
