/-
  NARROWER THAN 'FOR EVERY INPUT', by the rows' own cells (each row's printed sentence says how): LogNil: laid · LogCommits: laid · LogOpens: laid · LogTwice: laid · StockOnce: laid · StockRow: laid · StockPlays: laid · StockNone: laid · DealNil: laid · DealPlays: laid · DealCards: laid · DealApart: laid.
  DERIVED. THE GIVEN ROWS OF THIS SEAT. 12 by the template 'for every input the law returns true; each argument reads behind the call as it read before'; 0 by the template 'total and deterministic' (their statements: YtiodpeekbeahlaaGreatDoorTotals.lean).
  GIVEN WITH THE SEED: the statements are not yours to turn. If you find one false, say at which input.
  Laid BY PROGRAM, IN A SANDBOX (cutbox-rows.mjs): the forced cells as the released guide's own fill.sh prints them over the translation 1e55477fb0870dc4… (all of the seat's roots in one cut). By AI agents, Wed Nov 11 2026. No macro, syntax, notation, axiom, sorry.
-/
import Derived.Test.YtiodpeekbeahlaaGreatDoorChecked
import GoSem.PinnedTables
import GoSem.Claim
import GoSem.ClaimJoined
import GoSem.ClaimMapViews
import Derived.JoinedTies
import Derived.KernelRfl
namespace Go.Proofs.YtiodpeekbeahlaaGreatDoor
/- THE CELL 'sum', in the pinned program and in every row, IS THE sha256 OF THE DUMP (.gsa) THAT YtiodpeekbeahlaaGreatDoorProg.lean LOADS. Nothing in Lean hashes anything: it is a label: what it is worth is what the hold of that sum in a sandbox is worth. -/
noncomputable def Tryz.pinned : Pinned := { name := "ytiodpeekbeahlaagreatdoor", sum := "1e55477fb0870dc41b28e0d29c294ea41913eafa97d97d7a9bd7159277e56d03", checked := Tryz.checked }
namespace Rows
def none {H : Type} : Left H := { results := [], args := [] }

/- WHAT THE LISTED PACKAGE-LEVEL VARIABLES READ AS WHEN THE CALL BEGINS. Each datum BY PROGRAM (the guide's laid-datum.mjs) off the statement by which the dump's own 'gosem.cut.vars' lays the variable. In a bare row this is a premise. The card (YtiodpeekbeahlaaGreatDoorCards.lean) ties it to the program's text. -/
def laid_unicode_utf8_acceptRanges {H : Type} : DataW H := .agg [.agg [.lit (.int .u8 128), .lit (.int .u8 191)], .agg [.lit (.int .u8 160), .lit (.int .u8 191)], .agg [.lit (.int .u8 128), .lit (.int .u8 159)], .agg [.lit (.int .u8 144), .lit (.int .u8 191)], .agg [.lit (.int .u8 128), .lit (.int .u8 143)], .agg [.lit (.int .u8 0), .lit (.int .u8 0)], .agg [.lit (.int .u8 0), .lit (.int .u8 0)], .agg [.lit (.int .u8 0), .lit (.int .u8 0)], .agg [.lit (.int .u8 0), .lit (.int .u8 0)], .agg [.lit (.int .u8 0), .lit (.int .u8 0)], .agg [.lit (.int .u8 0), .lit (.int .u8 0)], .agg [.lit (.int .u8 0), .lit (.int .u8 0)], .agg [.lit (.int .u8 0), .lit (.int .u8 0)], .agg [.lit (.int .u8 0), .lit (.int .u8 0)], .agg [.lit (.int .u8 0), .lit (.int .u8 0)], .agg [.lit (.int .u8 0), .lit (.int .u8 0)]]
/-- One of Go's own tables, pinned by name: the form's constant. -/
def laid_unicode_utf8_first : DataW Unit := Go.Pinned.utf8First

/-- 'wainwrightlaw11.LogNil': WHATEVER THE INPUT: true; the input reads as it did. -/
def logNilSpec : ChangeSpec := { name := "logNil", fn := fun _ => fun
  | [d1, d2] => { results := [.lit (.bool true)], args := [d1, d2] }
  | _ => none }
def logNilRow : OpenClaim := { program := "ytiodpeekbeahlaagreatdoor", sum := "1e55477fb0870dc41b28e0d29c294ea41913eafa97d97d7a9bd7159277e56d03", func := "wainwright/wainwrightlaw11.LogNil", spec := "logNil", inPlace := ["internal/abi.NoEscape", "internal/bytealg.MakeNoZero", "internal/bytealg.IndexByteString", "internal/bytealg.IndexString"], unfollowed := true, recurses := true, named := ["unicode/utf8.first", "unicode/utf8.acceptRanges", "internal/bytealg.MaxLen"], apart := false, laid := [("unicode/utf8.acceptRanges", laid_unicode_utf8_acceptRanges), ("unicode/utf8.first", laid_unicode_utf8_first)] }
def LogNilSaid : Prop := logNilRow.holds Tryz.pinned (OpenSpec.ofChange logNilSpec)

/-- ITS FALSE NEIGHBOUR: 'it returns false'. Refute it at one input. -/
def logNilWrong : ChangeSpec := { name := "logNil", fn := fun _ => fun
  | [d1, d2] => { results := [.lit (.bool false)], args := [d1, d2] }
  | _ => none }
def LogNilWrongFalsely : Prop := logNilRow.holds Tryz.pinned (OpenSpec.ofChange logNilWrong)

/-- 'wainwrightlaw11.LogCommits': WHATEVER THE INPUT: true; the input reads as it did. -/
def logCommitsSpec : ChangeSpec := { name := "logCommits", fn := fun _ => fun
  | [d1, d2] => { results := [.lit (.bool true)], args := [d1, d2] }
  | _ => none }
def logCommitsRow : OpenClaim := { program := "ytiodpeekbeahlaagreatdoor", sum := "1e55477fb0870dc41b28e0d29c294ea41913eafa97d97d7a9bd7159277e56d03", func := "wainwright/wainwrightlaw11.LogCommits", spec := "logCommits", inPlace := ["internal/abi.NoEscape", "internal/bytealg.MakeNoZero", "internal/bytealg.IndexByteString", "internal/bytealg.IndexString"], unfollowed := true, recurses := true, named := ["unicode/utf8.first", "unicode/utf8.acceptRanges", "internal/bytealg.MaxLen"], apart := false, laid := [("unicode/utf8.acceptRanges", laid_unicode_utf8_acceptRanges), ("unicode/utf8.first", laid_unicode_utf8_first)] }
def LogCommitsSaid : Prop := logCommitsRow.holds Tryz.pinned (OpenSpec.ofChange logCommitsSpec)

/-- ITS FALSE NEIGHBOUR: 'it returns false'. Refute it at one input. -/
def logCommitsWrong : ChangeSpec := { name := "logCommits", fn := fun _ => fun
  | [d1, d2] => { results := [.lit (.bool false)], args := [d1, d2] }
  | _ => none }
def LogCommitsWrongFalsely : Prop := logCommitsRow.holds Tryz.pinned (OpenSpec.ofChange logCommitsWrong)

/-- 'wainwrightlaw11.LogOpens': WHATEVER THE INPUT: true; the input reads as it did. -/
def logOpensSpec : ChangeSpec := { name := "logOpens", fn := fun _ => fun
  | [d1, d2, d3] => { results := [.lit (.bool true)], args := [d1, d2, d3] }
  | _ => none }
def logOpensRow : OpenClaim := { program := "ytiodpeekbeahlaagreatdoor", sum := "1e55477fb0870dc41b28e0d29c294ea41913eafa97d97d7a9bd7159277e56d03", func := "wainwright/wainwrightlaw11.LogOpens", spec := "logOpens", inPlace := ["internal/abi.NoEscape", "internal/bytealg.MakeNoZero", "internal/bytealg.IndexByteString", "internal/bytealg.IndexString"], unfollowed := true, recurses := true, named := ["unicode/utf8.first", "unicode/utf8.acceptRanges", "internal/bytealg.MaxLen"], apart := false, laid := [("unicode/utf8.acceptRanges", laid_unicode_utf8_acceptRanges), ("unicode/utf8.first", laid_unicode_utf8_first)] }
def LogOpensSaid : Prop := logOpensRow.holds Tryz.pinned (OpenSpec.ofChange logOpensSpec)

/-- ITS FALSE NEIGHBOUR: 'it returns false'. Refute it at one input. -/
def logOpensWrong : ChangeSpec := { name := "logOpens", fn := fun _ => fun
  | [d1, d2, d3] => { results := [.lit (.bool false)], args := [d1, d2, d3] }
  | _ => none }
def LogOpensWrongFalsely : Prop := logOpensRow.holds Tryz.pinned (OpenSpec.ofChange logOpensWrong)

/-- 'wainwrightlaw11.LogTwice': WHATEVER THE INPUT: true; the input reads as it did. -/
def logTwiceSpec : ChangeSpec := { name := "logTwice", fn := fun _ => fun
  | [d1, d2] => { results := [.lit (.bool true)], args := [d1, d2] }
  | _ => none }
def logTwiceRow : OpenClaim := { program := "ytiodpeekbeahlaagreatdoor", sum := "1e55477fb0870dc41b28e0d29c294ea41913eafa97d97d7a9bd7159277e56d03", func := "wainwright/wainwrightlaw11.LogTwice", spec := "logTwice", inPlace := ["internal/abi.NoEscape", "internal/bytealg.MakeNoZero", "internal/bytealg.IndexByteString", "internal/bytealg.IndexString"], unfollowed := true, recurses := true, named := ["unicode/utf8.first", "unicode/utf8.acceptRanges", "internal/bytealg.MaxLen"], apart := false, laid := [("unicode/utf8.acceptRanges", laid_unicode_utf8_acceptRanges), ("unicode/utf8.first", laid_unicode_utf8_first)] }
def LogTwiceSaid : Prop := logTwiceRow.holds Tryz.pinned (OpenSpec.ofChange logTwiceSpec)

/-- ITS FALSE NEIGHBOUR: 'it returns false'. Refute it at one input. -/
def logTwiceWrong : ChangeSpec := { name := "logTwice", fn := fun _ => fun
  | [d1, d2] => { results := [.lit (.bool false)], args := [d1, d2] }
  | _ => none }
def LogTwiceWrongFalsely : Prop := logTwiceRow.holds Tryz.pinned (OpenSpec.ofChange logTwiceWrong)

/-- 'wainwrightlaw13.StockOnce': WHATEVER THE INPUT: true; the input reads as it did. -/
def stockOnceSpec : ChangeSpec := { name := "stockOnce", fn := fun _ => fun
  | [d1, d2] => { results := [.lit (.bool true)], args := [d1, d2] }
  | _ => none }
def stockOnceRow : OpenClaim := { program := "ytiodpeekbeahlaagreatdoor", sum := "1e55477fb0870dc41b28e0d29c294ea41913eafa97d97d7a9bd7159277e56d03", func := "wainwright/wainwrightlaw13.StockOnce", spec := "stockOnce", inPlace := ["internal/abi.NoEscape", "internal/bytealg.MakeNoZero", "internal/bytealg.IndexByteString", "internal/bytealg.IndexString"], unfollowed := true, recurses := true, named := ["unicode/utf8.first", "unicode/utf8.acceptRanges", "internal/bytealg.MaxLen"], apart := false, laid := [("unicode/utf8.acceptRanges", laid_unicode_utf8_acceptRanges), ("unicode/utf8.first", laid_unicode_utf8_first)] }
def StockOnceSaid : Prop := stockOnceRow.holds Tryz.pinned (OpenSpec.ofChange stockOnceSpec)

/-- ITS FALSE NEIGHBOUR: 'it returns false'. Refute it at one input. -/
def stockOnceWrong : ChangeSpec := { name := "stockOnce", fn := fun _ => fun
  | [d1, d2] => { results := [.lit (.bool false)], args := [d1, d2] }
  | _ => none }
def StockOnceWrongFalsely : Prop := stockOnceRow.holds Tryz.pinned (OpenSpec.ofChange stockOnceWrong)

/-- 'wainwrightlaw13.StockRow': WHATEVER THE INPUT: true; the input reads as it did. -/
def stockRowSpec : ChangeSpec := { name := "stockRow", fn := fun _ => fun
  | [d1, d2, d3] => { results := [.lit (.bool true)], args := [d1, d2, d3] }
  | _ => none }
def stockRowRow : OpenClaim := { program := "ytiodpeekbeahlaagreatdoor", sum := "1e55477fb0870dc41b28e0d29c294ea41913eafa97d97d7a9bd7159277e56d03", func := "wainwright/wainwrightlaw13.StockRow", spec := "stockRow", inPlace := ["internal/abi.NoEscape", "internal/bytealg.MakeNoZero", "internal/bytealg.IndexByteString", "internal/bytealg.IndexString"], unfollowed := true, recurses := true, named := ["unicode/utf8.first", "unicode/utf8.acceptRanges", "internal/bytealg.MaxLen"], apart := false, laid := [("unicode/utf8.acceptRanges", laid_unicode_utf8_acceptRanges), ("unicode/utf8.first", laid_unicode_utf8_first)] }
def StockRowSaid : Prop := stockRowRow.holds Tryz.pinned (OpenSpec.ofChange stockRowSpec)

/-- ITS FALSE NEIGHBOUR: 'it returns false'. Refute it at one input. -/
def stockRowWrong : ChangeSpec := { name := "stockRow", fn := fun _ => fun
  | [d1, d2, d3] => { results := [.lit (.bool false)], args := [d1, d2, d3] }
  | _ => none }
def StockRowWrongFalsely : Prop := stockRowRow.holds Tryz.pinned (OpenSpec.ofChange stockRowWrong)

/-- 'wainwrightlaw13.StockPlays': WHATEVER THE INPUT: true; the input reads as it did. -/
def stockPlaysSpec : ChangeSpec := { name := "stockPlays", fn := fun _ => fun
  | [d1, d2, d3] => { results := [.lit (.bool true)], args := [d1, d2, d3] }
  | _ => none }
def stockPlaysRow : OpenClaim := { program := "ytiodpeekbeahlaagreatdoor", sum := "1e55477fb0870dc41b28e0d29c294ea41913eafa97d97d7a9bd7159277e56d03", func := "wainwright/wainwrightlaw13.StockPlays", spec := "stockPlays", inPlace := ["internal/abi.NoEscape", "internal/bytealg.MakeNoZero", "internal/bytealg.IndexByteString", "internal/bytealg.IndexString"], unfollowed := true, recurses := true, named := ["unicode/utf8.first", "unicode/utf8.acceptRanges", "internal/bytealg.MaxLen"], apart := false, laid := [("unicode/utf8.acceptRanges", laid_unicode_utf8_acceptRanges), ("unicode/utf8.first", laid_unicode_utf8_first)] }
def StockPlaysSaid : Prop := stockPlaysRow.holds Tryz.pinned (OpenSpec.ofChange stockPlaysSpec)

/-- ITS FALSE NEIGHBOUR: 'it returns false'. Refute it at one input. -/
def stockPlaysWrong : ChangeSpec := { name := "stockPlays", fn := fun _ => fun
  | [d1, d2, d3] => { results := [.lit (.bool false)], args := [d1, d2, d3] }
  | _ => none }
def StockPlaysWrongFalsely : Prop := stockPlaysRow.holds Tryz.pinned (OpenSpec.ofChange stockPlaysWrong)

/-- 'wainwrightlaw13.StockNone': WHATEVER THE INPUT: true; the input reads as it did. -/
def stockNoneSpec : ChangeSpec := { name := "stockNone", fn := fun _ => fun
  | [d] => { results := [.lit (.bool true)], args := [d] }
  | _ => none }
def stockNoneRow : OpenClaim := { program := "ytiodpeekbeahlaagreatdoor", sum := "1e55477fb0870dc41b28e0d29c294ea41913eafa97d97d7a9bd7159277e56d03", func := "wainwright/wainwrightlaw13.StockNone", spec := "stockNone", inPlace := ["internal/abi.NoEscape", "internal/bytealg.MakeNoZero", "internal/bytealg.IndexByteString", "internal/bytealg.IndexString"], unfollowed := true, recurses := true, named := ["unicode/utf8.first", "unicode/utf8.acceptRanges", "internal/bytealg.MaxLen"], apart := false, laid := [("unicode/utf8.acceptRanges", laid_unicode_utf8_acceptRanges), ("unicode/utf8.first", laid_unicode_utf8_first)] }
def StockNoneSaid : Prop := stockNoneRow.holds Tryz.pinned (OpenSpec.ofChange stockNoneSpec)

/-- ITS FALSE NEIGHBOUR: 'it returns false'. Refute it at one input. -/
def stockNoneWrong : ChangeSpec := { name := "stockNone", fn := fun _ => fun
  | [d] => { results := [.lit (.bool false)], args := [d] }
  | _ => none }
def StockNoneWrongFalsely : Prop := stockNoneRow.holds Tryz.pinned (OpenSpec.ofChange stockNoneWrong)

/-- 'wainwrightlaw12.DealNil': WHATEVER THE INPUT: true; the input reads as it did. -/
def dealNilSpec : ChangeSpec := { name := "dealNil", fn := fun _ => fun
  | [d] => { results := [.lit (.bool true)], args := [d] }
  | _ => none }
def dealNilRow : OpenClaim := { program := "ytiodpeekbeahlaagreatdoor", sum := "1e55477fb0870dc41b28e0d29c294ea41913eafa97d97d7a9bd7159277e56d03", func := "wainwright/wainwrightlaw12.DealNil", spec := "dealNil", inPlace := ["internal/abi.NoEscape", "internal/bytealg.MakeNoZero", "internal/bytealg.IndexByteString", "internal/bytealg.IndexString"], unfollowed := true, recurses := true, named := ["unicode/utf8.first", "unicode/utf8.acceptRanges", "internal/bytealg.MaxLen"], apart := false, laid := [("unicode/utf8.acceptRanges", laid_unicode_utf8_acceptRanges), ("unicode/utf8.first", laid_unicode_utf8_first)] }
def DealNilSaid : Prop := dealNilRow.holds Tryz.pinned (OpenSpec.ofChange dealNilSpec)

/-- ITS FALSE NEIGHBOUR: 'it returns false'. Refute it at one input. -/
def dealNilWrong : ChangeSpec := { name := "dealNil", fn := fun _ => fun
  | [d] => { results := [.lit (.bool false)], args := [d] }
  | _ => none }
def DealNilWrongFalsely : Prop := dealNilRow.holds Tryz.pinned (OpenSpec.ofChange dealNilWrong)

/-- 'wainwrightlaw12.DealPlays': WHATEVER THE INPUT: true; the input reads as it did. -/
def dealPlaysSpec : ChangeSpec := { name := "dealPlays", fn := fun _ => fun
  | [d1, d2] => { results := [.lit (.bool true)], args := [d1, d2] }
  | _ => none }
def dealPlaysRow : OpenClaim := { program := "ytiodpeekbeahlaagreatdoor", sum := "1e55477fb0870dc41b28e0d29c294ea41913eafa97d97d7a9bd7159277e56d03", func := "wainwright/wainwrightlaw12.DealPlays", spec := "dealPlays", inPlace := ["internal/abi.NoEscape", "internal/bytealg.MakeNoZero", "internal/bytealg.IndexByteString", "internal/bytealg.IndexString"], unfollowed := true, recurses := true, named := ["unicode/utf8.first", "unicode/utf8.acceptRanges", "internal/bytealg.MaxLen"], apart := false, laid := [("unicode/utf8.acceptRanges", laid_unicode_utf8_acceptRanges), ("unicode/utf8.first", laid_unicode_utf8_first)] }
def DealPlaysSaid : Prop := dealPlaysRow.holds Tryz.pinned (OpenSpec.ofChange dealPlaysSpec)

/-- ITS FALSE NEIGHBOUR: 'it returns false'. Refute it at one input. -/
def dealPlaysWrong : ChangeSpec := { name := "dealPlays", fn := fun _ => fun
  | [d1, d2] => { results := [.lit (.bool false)], args := [d1, d2] }
  | _ => none }
def DealPlaysWrongFalsely : Prop := dealPlaysRow.holds Tryz.pinned (OpenSpec.ofChange dealPlaysWrong)

/-- 'wainwrightlaw12.DealCards': WHATEVER THE INPUT: true; the input reads as it did. -/
def dealCardsSpec : ChangeSpec := { name := "dealCards", fn := fun _ => fun
  | [d1, d2] => { results := [.lit (.bool true)], args := [d1, d2] }
  | _ => none }
def dealCardsRow : OpenClaim := { program := "ytiodpeekbeahlaagreatdoor", sum := "1e55477fb0870dc41b28e0d29c294ea41913eafa97d97d7a9bd7159277e56d03", func := "wainwright/wainwrightlaw12.DealCards", spec := "dealCards", inPlace := ["internal/abi.NoEscape", "internal/bytealg.MakeNoZero", "internal/bytealg.IndexByteString", "internal/bytealg.IndexString"], unfollowed := true, recurses := true, named := ["unicode/utf8.first", "unicode/utf8.acceptRanges", "internal/bytealg.MaxLen"], apart := false, laid := [("unicode/utf8.acceptRanges", laid_unicode_utf8_acceptRanges), ("unicode/utf8.first", laid_unicode_utf8_first)] }
def DealCardsSaid : Prop := dealCardsRow.holds Tryz.pinned (OpenSpec.ofChange dealCardsSpec)

/-- ITS FALSE NEIGHBOUR: 'it returns false'. Refute it at one input. -/
def dealCardsWrong : ChangeSpec := { name := "dealCards", fn := fun _ => fun
  | [d1, d2] => { results := [.lit (.bool false)], args := [d1, d2] }
  | _ => none }
def DealCardsWrongFalsely : Prop := dealCardsRow.holds Tryz.pinned (OpenSpec.ofChange dealCardsWrong)

/-- 'wainwrightlaw12.DealApart': WHATEVER THE INPUT: true; the input reads as it did. -/
def dealApartSpec : ChangeSpec := { name := "dealApart", fn := fun _ => fun
  | [d1, d2] => { results := [.lit (.bool true)], args := [d1, d2] }
  | _ => none }
def dealApartRow : OpenClaim := { program := "ytiodpeekbeahlaagreatdoor", sum := "1e55477fb0870dc41b28e0d29c294ea41913eafa97d97d7a9bd7159277e56d03", func := "wainwright/wainwrightlaw12.DealApart", spec := "dealApart", inPlace := ["internal/abi.NoEscape", "internal/bytealg.MakeNoZero", "internal/bytealg.IndexByteString", "internal/bytealg.IndexString"], unfollowed := true, recurses := true, named := ["unicode/utf8.first", "unicode/utf8.acceptRanges", "internal/bytealg.MaxLen"], apart := false, laid := [("unicode/utf8.acceptRanges", laid_unicode_utf8_acceptRanges), ("unicode/utf8.first", laid_unicode_utf8_first)] }
def DealApartSaid : Prop := dealApartRow.holds Tryz.pinned (OpenSpec.ofChange dealApartSpec)

/-- ITS FALSE NEIGHBOUR: 'it returns false'. Refute it at one input. -/
def dealApartWrong : ChangeSpec := { name := "dealApart", fn := fun _ => fun
  | [d1, d2] => { results := [.lit (.bool false)], args := [d1, d2] }
  | _ => none }
def DealApartWrongFalsely : Prop := dealApartRow.holds Tryz.pinned (OpenSpec.ofChange dealApartWrong)

/- THE SECOND FORM. 'bulk': how many values and letters a reading holds, each counted each time it is reached (what is shared counts as often as it is met; a slice's spare places count too). A statement '..UptoSaid' is the law's where the arguments, and the package variables that the reading takes, are together of bulk at most 1048576: NARROWER than '..Said'. Prove '..Said' where nothing that the law and all that it calls make is longer than what came in: it says more and counts as full. Else prove '..UptoSaid'. A law counts once. -/
mutual
def uptoBulk {H : Type} : DataW H → Nat
  | .lit (.string bytes) => bytes.length + 1
  | .lit _ => 1
  | .nil => 1
  | .ptr d => uptoBulk d + 1
  | .slice elems spare => uptoBulkAll elems + uptoBulkAll spare + 1
  | .agg parts => uptoBulkAll parts + 1
  | .iface _ d => uptoBulk d + 1
  | .map entries => uptoBulkEntries entries + 1
  | .held _ => 1
def uptoBulkAll {H : Type} : List (DataW H) → Nat
  | [] => 0
  | d :: r => uptoBulk d + uptoBulkAll r
def uptoBulkEntries {H : Type} : List (Lit × DataW H) → Nat
  | [] => 0
  | x :: r => uptoBulkEntry x + uptoBulkEntries r
def uptoBulkEntry {H : Type} : Lit × DataW H → Nat
  | (.string bytes, d) => bytes.length + uptoBulk d + 1
  | (_, d) => uptoBulk d + 1
 end
def uptoSmall : (H : Type) → List (DataW H) → Bool := fun _ ds => decide (uptoBulkAll ds ≤ 1048576)
def OpenSpec.upto (s : _root_.Go.ChangeSpec) : _root_.Go.OpenSpec := { _root_.Go.OpenSpec.ofChange s with cond := some uptoSmall }

/-- 'wainwrightlaw11.LogNil', WHERE WHAT IT READS IS OF BULK AT MOST 1048576: true; the input reads as it did. -/
def logNilUptoRow : OpenClaim := { program := "ytiodpeekbeahlaagreatdoor", sum := "1e55477fb0870dc41b28e0d29c294ea41913eafa97d97d7a9bd7159277e56d03", func := "wainwright/wainwrightlaw11.LogNil", spec := "logNil", inPlace := ["internal/abi.NoEscape", "internal/bytealg.MakeNoZero", "internal/bytealg.IndexByteString", "internal/bytealg.IndexString"], unfollowed := true, recurses := true, named := ["unicode/utf8.first", "unicode/utf8.acceptRanges", "internal/bytealg.MaxLen"], apart := false, laid := [("unicode/utf8.acceptRanges", laid_unicode_utf8_acceptRanges), ("unicode/utf8.first", laid_unicode_utf8_first)], narrowed := true }
def LogNilUptoSaid : Prop := logNilUptoRow.holds Tryz.pinned (OpenSpec.upto logNilSpec)

/-- 'wainwrightlaw11.LogCommits', WHERE WHAT IT READS IS OF BULK AT MOST 1048576: true; the input reads as it did. -/
def logCommitsUptoRow : OpenClaim := { program := "ytiodpeekbeahlaagreatdoor", sum := "1e55477fb0870dc41b28e0d29c294ea41913eafa97d97d7a9bd7159277e56d03", func := "wainwright/wainwrightlaw11.LogCommits", spec := "logCommits", inPlace := ["internal/abi.NoEscape", "internal/bytealg.MakeNoZero", "internal/bytealg.IndexByteString", "internal/bytealg.IndexString"], unfollowed := true, recurses := true, named := ["unicode/utf8.first", "unicode/utf8.acceptRanges", "internal/bytealg.MaxLen"], apart := false, laid := [("unicode/utf8.acceptRanges", laid_unicode_utf8_acceptRanges), ("unicode/utf8.first", laid_unicode_utf8_first)], narrowed := true }
def LogCommitsUptoSaid : Prop := logCommitsUptoRow.holds Tryz.pinned (OpenSpec.upto logCommitsSpec)

/-- 'wainwrightlaw11.LogOpens', WHERE WHAT IT READS IS OF BULK AT MOST 1048576: true; the input reads as it did. -/
def logOpensUptoRow : OpenClaim := { program := "ytiodpeekbeahlaagreatdoor", sum := "1e55477fb0870dc41b28e0d29c294ea41913eafa97d97d7a9bd7159277e56d03", func := "wainwright/wainwrightlaw11.LogOpens", spec := "logOpens", inPlace := ["internal/abi.NoEscape", "internal/bytealg.MakeNoZero", "internal/bytealg.IndexByteString", "internal/bytealg.IndexString"], unfollowed := true, recurses := true, named := ["unicode/utf8.first", "unicode/utf8.acceptRanges", "internal/bytealg.MaxLen"], apart := false, laid := [("unicode/utf8.acceptRanges", laid_unicode_utf8_acceptRanges), ("unicode/utf8.first", laid_unicode_utf8_first)], narrowed := true }
def LogOpensUptoSaid : Prop := logOpensUptoRow.holds Tryz.pinned (OpenSpec.upto logOpensSpec)

/-- 'wainwrightlaw11.LogTwice', WHERE WHAT IT READS IS OF BULK AT MOST 1048576: true; the input reads as it did. -/
def logTwiceUptoRow : OpenClaim := { program := "ytiodpeekbeahlaagreatdoor", sum := "1e55477fb0870dc41b28e0d29c294ea41913eafa97d97d7a9bd7159277e56d03", func := "wainwright/wainwrightlaw11.LogTwice", spec := "logTwice", inPlace := ["internal/abi.NoEscape", "internal/bytealg.MakeNoZero", "internal/bytealg.IndexByteString", "internal/bytealg.IndexString"], unfollowed := true, recurses := true, named := ["unicode/utf8.first", "unicode/utf8.acceptRanges", "internal/bytealg.MaxLen"], apart := false, laid := [("unicode/utf8.acceptRanges", laid_unicode_utf8_acceptRanges), ("unicode/utf8.first", laid_unicode_utf8_first)], narrowed := true }
def LogTwiceUptoSaid : Prop := logTwiceUptoRow.holds Tryz.pinned (OpenSpec.upto logTwiceSpec)

/-- 'wainwrightlaw13.StockOnce', WHERE WHAT IT READS IS OF BULK AT MOST 1048576: true; the input reads as it did. -/
def stockOnceUptoRow : OpenClaim := { program := "ytiodpeekbeahlaagreatdoor", sum := "1e55477fb0870dc41b28e0d29c294ea41913eafa97d97d7a9bd7159277e56d03", func := "wainwright/wainwrightlaw13.StockOnce", spec := "stockOnce", inPlace := ["internal/abi.NoEscape", "internal/bytealg.MakeNoZero", "internal/bytealg.IndexByteString", "internal/bytealg.IndexString"], unfollowed := true, recurses := true, named := ["unicode/utf8.first", "unicode/utf8.acceptRanges", "internal/bytealg.MaxLen"], apart := false, laid := [("unicode/utf8.acceptRanges", laid_unicode_utf8_acceptRanges), ("unicode/utf8.first", laid_unicode_utf8_first)], narrowed := true }
def StockOnceUptoSaid : Prop := stockOnceUptoRow.holds Tryz.pinned (OpenSpec.upto stockOnceSpec)

/-- 'wainwrightlaw13.StockRow', WHERE WHAT IT READS IS OF BULK AT MOST 1048576: true; the input reads as it did. -/
def stockRowUptoRow : OpenClaim := { program := "ytiodpeekbeahlaagreatdoor", sum := "1e55477fb0870dc41b28e0d29c294ea41913eafa97d97d7a9bd7159277e56d03", func := "wainwright/wainwrightlaw13.StockRow", spec := "stockRow", inPlace := ["internal/abi.NoEscape", "internal/bytealg.MakeNoZero", "internal/bytealg.IndexByteString", "internal/bytealg.IndexString"], unfollowed := true, recurses := true, named := ["unicode/utf8.first", "unicode/utf8.acceptRanges", "internal/bytealg.MaxLen"], apart := false, laid := [("unicode/utf8.acceptRanges", laid_unicode_utf8_acceptRanges), ("unicode/utf8.first", laid_unicode_utf8_first)], narrowed := true }
def StockRowUptoSaid : Prop := stockRowUptoRow.holds Tryz.pinned (OpenSpec.upto stockRowSpec)

/-- 'wainwrightlaw13.StockPlays', WHERE WHAT IT READS IS OF BULK AT MOST 1048576: true; the input reads as it did. -/
def stockPlaysUptoRow : OpenClaim := { program := "ytiodpeekbeahlaagreatdoor", sum := "1e55477fb0870dc41b28e0d29c294ea41913eafa97d97d7a9bd7159277e56d03", func := "wainwright/wainwrightlaw13.StockPlays", spec := "stockPlays", inPlace := ["internal/abi.NoEscape", "internal/bytealg.MakeNoZero", "internal/bytealg.IndexByteString", "internal/bytealg.IndexString"], unfollowed := true, recurses := true, named := ["unicode/utf8.first", "unicode/utf8.acceptRanges", "internal/bytealg.MaxLen"], apart := false, laid := [("unicode/utf8.acceptRanges", laid_unicode_utf8_acceptRanges), ("unicode/utf8.first", laid_unicode_utf8_first)], narrowed := true }
def StockPlaysUptoSaid : Prop := stockPlaysUptoRow.holds Tryz.pinned (OpenSpec.upto stockPlaysSpec)

/-- 'wainwrightlaw13.StockNone', WHERE WHAT IT READS IS OF BULK AT MOST 1048576: true; the input reads as it did. -/
def stockNoneUptoRow : OpenClaim := { program := "ytiodpeekbeahlaagreatdoor", sum := "1e55477fb0870dc41b28e0d29c294ea41913eafa97d97d7a9bd7159277e56d03", func := "wainwright/wainwrightlaw13.StockNone", spec := "stockNone", inPlace := ["internal/abi.NoEscape", "internal/bytealg.MakeNoZero", "internal/bytealg.IndexByteString", "internal/bytealg.IndexString"], unfollowed := true, recurses := true, named := ["unicode/utf8.first", "unicode/utf8.acceptRanges", "internal/bytealg.MaxLen"], apart := false, laid := [("unicode/utf8.acceptRanges", laid_unicode_utf8_acceptRanges), ("unicode/utf8.first", laid_unicode_utf8_first)], narrowed := true }
def StockNoneUptoSaid : Prop := stockNoneUptoRow.holds Tryz.pinned (OpenSpec.upto stockNoneSpec)

/-- 'wainwrightlaw12.DealNil', WHERE WHAT IT READS IS OF BULK AT MOST 1048576: true; the input reads as it did. -/
def dealNilUptoRow : OpenClaim := { program := "ytiodpeekbeahlaagreatdoor", sum := "1e55477fb0870dc41b28e0d29c294ea41913eafa97d97d7a9bd7159277e56d03", func := "wainwright/wainwrightlaw12.DealNil", spec := "dealNil", inPlace := ["internal/abi.NoEscape", "internal/bytealg.MakeNoZero", "internal/bytealg.IndexByteString", "internal/bytealg.IndexString"], unfollowed := true, recurses := true, named := ["unicode/utf8.first", "unicode/utf8.acceptRanges", "internal/bytealg.MaxLen"], apart := false, laid := [("unicode/utf8.acceptRanges", laid_unicode_utf8_acceptRanges), ("unicode/utf8.first", laid_unicode_utf8_first)], narrowed := true }
def DealNilUptoSaid : Prop := dealNilUptoRow.holds Tryz.pinned (OpenSpec.upto dealNilSpec)

/-- 'wainwrightlaw12.DealPlays', WHERE WHAT IT READS IS OF BULK AT MOST 1048576: true; the input reads as it did. -/
def dealPlaysUptoRow : OpenClaim := { program := "ytiodpeekbeahlaagreatdoor", sum := "1e55477fb0870dc41b28e0d29c294ea41913eafa97d97d7a9bd7159277e56d03", func := "wainwright/wainwrightlaw12.DealPlays", spec := "dealPlays", inPlace := ["internal/abi.NoEscape", "internal/bytealg.MakeNoZero", "internal/bytealg.IndexByteString", "internal/bytealg.IndexString"], unfollowed := true, recurses := true, named := ["unicode/utf8.first", "unicode/utf8.acceptRanges", "internal/bytealg.MaxLen"], apart := false, laid := [("unicode/utf8.acceptRanges", laid_unicode_utf8_acceptRanges), ("unicode/utf8.first", laid_unicode_utf8_first)], narrowed := true }
def DealPlaysUptoSaid : Prop := dealPlaysUptoRow.holds Tryz.pinned (OpenSpec.upto dealPlaysSpec)

/-- 'wainwrightlaw12.DealCards', WHERE WHAT IT READS IS OF BULK AT MOST 1048576: true; the input reads as it did. -/
def dealCardsUptoRow : OpenClaim := { program := "ytiodpeekbeahlaagreatdoor", sum := "1e55477fb0870dc41b28e0d29c294ea41913eafa97d97d7a9bd7159277e56d03", func := "wainwright/wainwrightlaw12.DealCards", spec := "dealCards", inPlace := ["internal/abi.NoEscape", "internal/bytealg.MakeNoZero", "internal/bytealg.IndexByteString", "internal/bytealg.IndexString"], unfollowed := true, recurses := true, named := ["unicode/utf8.first", "unicode/utf8.acceptRanges", "internal/bytealg.MaxLen"], apart := false, laid := [("unicode/utf8.acceptRanges", laid_unicode_utf8_acceptRanges), ("unicode/utf8.first", laid_unicode_utf8_first)], narrowed := true }
def DealCardsUptoSaid : Prop := dealCardsUptoRow.holds Tryz.pinned (OpenSpec.upto dealCardsSpec)

/-- 'wainwrightlaw12.DealApart', WHERE WHAT IT READS IS OF BULK AT MOST 1048576: true; the input reads as it did. -/
def dealApartUptoRow : OpenClaim := { program := "ytiodpeekbeahlaagreatdoor", sum := "1e55477fb0870dc41b28e0d29c294ea41913eafa97d97d7a9bd7159277e56d03", func := "wainwright/wainwrightlaw12.DealApart", spec := "dealApart", inPlace := ["internal/abi.NoEscape", "internal/bytealg.MakeNoZero", "internal/bytealg.IndexByteString", "internal/bytealg.IndexString"], unfollowed := true, recurses := true, named := ["unicode/utf8.first", "unicode/utf8.acceptRanges", "internal/bytealg.MaxLen"], apart := false, laid := [("unicode/utf8.acceptRanges", laid_unicode_utf8_acceptRanges), ("unicode/utf8.first", laid_unicode_utf8_first)], narrowed := true }
def DealApartUptoSaid : Prop := dealApartUptoRow.holds Tryz.pinned (OpenSpec.upto dealApartSpec)

end Rows
end Go.Proofs.YtiodpeekbeahlaaGreatDoor
