/-
  NARROWER THAN 'FOR EVERY INPUT', by the rows' own cells (each row's printed sentence says how): RunsApart: laid · RunsOdd: laid · RunsDrop: laid · ChainsApart: laid · ChainsOdd: laid · ChainsDrop: laid · RunsBack: laid · ChainsBack: laid.
  DERIVED. THE GIVEN ROWS OF THIS SEAT. 8 by the template 'for every input the law returns true; each argument reads behind the call as it read before'; 0 by the template 'total and deterministic' (their statements: YtlbammfnkphajaaGreatDoorTotals.lean).
  GIVEN WITH THE SEED: the statements are not yours to turn. If you find one false, say at which input.
  Laid BY PROGRAM, IN A SANDBOX (cutbox-rows.mjs): the forced cells as the released guide's own fill.sh prints them over the translation 06151bc5eceee183… (all of the seat's roots in one cut). By AI agents, Wed Nov 11 2026. No macro, syntax, notation, axiom, sorry.
-/
import Derived.Test.YtlbammfnkphajaaGreatDoorChecked
import GoSem.PinnedTables
import GoSem.Claim
import GoSem.ClaimJoined
import GoSem.ClaimMapViews
import Derived.JoinedTies
import Derived.KernelRfl
namespace Go.Proofs.YtlbammfnkphajaaGreatDoor
/- THE CELL 'sum', in the pinned program and in every row, IS THE sha256 OF THE DUMP (.gsa) THAT YtlbammfnkphajaaGreatDoorProg.lean LOADS. Nothing in Lean hashes anything: it is a label: what it is worth is what the hold of that sum in a sandbox is worth. -/
noncomputable def Tryz.pinned : Pinned := { name := "ytlbammfnkphajaagreatdoor", sum := "06151bc5eceee18387582e13f74ec2e3962fea702423c69f8228b939857525b1", checked := Tryz.checked }
namespace Rows
def none {H : Type} : Left H := { results := [], args := [] }

/- WHAT THE LISTED PACKAGE-LEVEL VARIABLES READ AS WHEN THE CALL BEGINS. Each datum BY PROGRAM (the guide's laid-datum.mjs) off the statement by which the dump's own 'gosem.cut.vars' lays the variable. In a bare row this is a premise. The card (YtlbammfnkphajaaGreatDoorCards.lean) ties it to the program's text. -/
def laid_unicode_utf8_acceptRanges {H : Type} : DataW H := .agg [.agg [.lit (.int .u8 128), .lit (.int .u8 191)], .agg [.lit (.int .u8 160), .lit (.int .u8 191)], .agg [.lit (.int .u8 128), .lit (.int .u8 159)], .agg [.lit (.int .u8 144), .lit (.int .u8 191)], .agg [.lit (.int .u8 128), .lit (.int .u8 143)], .agg [.lit (.int .u8 0), .lit (.int .u8 0)], .agg [.lit (.int .u8 0), .lit (.int .u8 0)], .agg [.lit (.int .u8 0), .lit (.int .u8 0)], .agg [.lit (.int .u8 0), .lit (.int .u8 0)], .agg [.lit (.int .u8 0), .lit (.int .u8 0)], .agg [.lit (.int .u8 0), .lit (.int .u8 0)], .agg [.lit (.int .u8 0), .lit (.int .u8 0)], .agg [.lit (.int .u8 0), .lit (.int .u8 0)], .agg [.lit (.int .u8 0), .lit (.int .u8 0)], .agg [.lit (.int .u8 0), .lit (.int .u8 0)], .agg [.lit (.int .u8 0), .lit (.int .u8 0)]]
/-- One of Go's own tables, pinned by name: the form's constant. -/
def laid_unicode_utf8_first : DataW Unit := Go.Pinned.utf8First

/-- 'wainwrightlaw15.RunsApart': WHATEVER THE INPUT: true; the input reads as it did. -/
def runsApartSpec : ChangeSpec := { name := "runsApart", fn := fun _ => fun
  | [d1, d2] => { results := [.lit (.bool true)], args := [d1, d2] }
  | _ => none }
def runsApartRow : OpenClaim := { program := "ytlbammfnkphajaagreatdoor", sum := "06151bc5eceee18387582e13f74ec2e3962fea702423c69f8228b939857525b1", func := "wainwright/wainwrightlaw15.RunsApart", spec := "runsApart", inPlace := ["internal/abi.NoEscape", "internal/bytealg.MakeNoZero", "internal/bytealg.IndexByteString", "internal/bytealg.IndexString"], unfollowed := true, recurses := true, named := ["unicode/utf8.first", "unicode/utf8.acceptRanges", "internal/bytealg.MaxLen"], apart := false, laid := [("unicode/utf8.acceptRanges", laid_unicode_utf8_acceptRanges), ("unicode/utf8.first", laid_unicode_utf8_first)] }
def RunsApartSaid : Prop := runsApartRow.holds Tryz.pinned (OpenSpec.ofChange runsApartSpec)

/-- ITS FALSE NEIGHBOUR: 'it returns false'. Refute it at one input. -/
def runsApartWrong : ChangeSpec := { name := "runsApart", fn := fun _ => fun
  | [d1, d2] => { results := [.lit (.bool false)], args := [d1, d2] }
  | _ => none }
def RunsApartWrongFalsely : Prop := runsApartRow.holds Tryz.pinned (OpenSpec.ofChange runsApartWrong)

/-- 'wainwrightlaw15.RunsOdd': WHATEVER THE INPUT: true; the input reads as it did. -/
def runsOddSpec : ChangeSpec := { name := "runsOdd", fn := fun _ => fun
  | [d1, d2] => { results := [.lit (.bool true)], args := [d1, d2] }
  | _ => none }
def runsOddRow : OpenClaim := { program := "ytlbammfnkphajaagreatdoor", sum := "06151bc5eceee18387582e13f74ec2e3962fea702423c69f8228b939857525b1", func := "wainwright/wainwrightlaw15.RunsOdd", spec := "runsOdd", inPlace := ["internal/abi.NoEscape", "internal/bytealg.MakeNoZero", "internal/bytealg.IndexByteString", "internal/bytealg.IndexString"], unfollowed := true, recurses := true, named := ["unicode/utf8.first", "unicode/utf8.acceptRanges", "internal/bytealg.MaxLen"], apart := false, laid := [("unicode/utf8.acceptRanges", laid_unicode_utf8_acceptRanges), ("unicode/utf8.first", laid_unicode_utf8_first)] }
def RunsOddSaid : Prop := runsOddRow.holds Tryz.pinned (OpenSpec.ofChange runsOddSpec)

/-- ITS FALSE NEIGHBOUR: 'it returns false'. Refute it at one input. -/
def runsOddWrong : ChangeSpec := { name := "runsOdd", fn := fun _ => fun
  | [d1, d2] => { results := [.lit (.bool false)], args := [d1, d2] }
  | _ => none }
def RunsOddWrongFalsely : Prop := runsOddRow.holds Tryz.pinned (OpenSpec.ofChange runsOddWrong)

/-- 'wainwrightlaw15.RunsDrop': WHATEVER THE INPUT: true; the input reads as it did. -/
def runsDropSpec : ChangeSpec := { name := "runsDrop", fn := fun _ => fun
  | [d1, d2] => { results := [.lit (.bool true)], args := [d1, d2] }
  | _ => none }
def runsDropRow : OpenClaim := { program := "ytlbammfnkphajaagreatdoor", sum := "06151bc5eceee18387582e13f74ec2e3962fea702423c69f8228b939857525b1", func := "wainwright/wainwrightlaw15.RunsDrop", spec := "runsDrop", inPlace := ["internal/abi.NoEscape", "internal/bytealg.MakeNoZero", "internal/bytealg.IndexByteString", "internal/bytealg.IndexString"], unfollowed := true, recurses := true, named := ["unicode/utf8.first", "unicode/utf8.acceptRanges", "internal/bytealg.MaxLen"], apart := false, laid := [("unicode/utf8.acceptRanges", laid_unicode_utf8_acceptRanges), ("unicode/utf8.first", laid_unicode_utf8_first)] }
def RunsDropSaid : Prop := runsDropRow.holds Tryz.pinned (OpenSpec.ofChange runsDropSpec)

/-- ITS FALSE NEIGHBOUR: 'it returns false'. Refute it at one input. -/
def runsDropWrong : ChangeSpec := { name := "runsDrop", fn := fun _ => fun
  | [d1, d2] => { results := [.lit (.bool false)], args := [d1, d2] }
  | _ => none }
def RunsDropWrongFalsely : Prop := runsDropRow.holds Tryz.pinned (OpenSpec.ofChange runsDropWrong)

/-- 'wainwrightlaw14.ChainsApart': WHATEVER THE INPUT: true; the input reads as it did. -/
def chainsApartSpec : ChangeSpec := { name := "chainsApart", fn := fun _ => fun
  | [d1, d2] => { results := [.lit (.bool true)], args := [d1, d2] }
  | _ => none }
def chainsApartRow : OpenClaim := { program := "ytlbammfnkphajaagreatdoor", sum := "06151bc5eceee18387582e13f74ec2e3962fea702423c69f8228b939857525b1", func := "wainwright/wainwrightlaw14.ChainsApart", spec := "chainsApart", inPlace := ["internal/abi.NoEscape", "internal/bytealg.MakeNoZero", "internal/bytealg.IndexByteString", "internal/bytealg.IndexString"], unfollowed := true, recurses := true, named := ["unicode/utf8.first", "unicode/utf8.acceptRanges", "internal/bytealg.MaxLen"], apart := false, laid := [("unicode/utf8.acceptRanges", laid_unicode_utf8_acceptRanges), ("unicode/utf8.first", laid_unicode_utf8_first)] }
def ChainsApartSaid : Prop := chainsApartRow.holds Tryz.pinned (OpenSpec.ofChange chainsApartSpec)

/-- ITS FALSE NEIGHBOUR: 'it returns false'. Refute it at one input. -/
def chainsApartWrong : ChangeSpec := { name := "chainsApart", fn := fun _ => fun
  | [d1, d2] => { results := [.lit (.bool false)], args := [d1, d2] }
  | _ => none }
def ChainsApartWrongFalsely : Prop := chainsApartRow.holds Tryz.pinned (OpenSpec.ofChange chainsApartWrong)

/-- 'wainwrightlaw14.ChainsOdd': WHATEVER THE INPUT: true; the input reads as it did. -/
def chainsOddSpec : ChangeSpec := { name := "chainsOdd", fn := fun _ => fun
  | [d1, d2] => { results := [.lit (.bool true)], args := [d1, d2] }
  | _ => none }
def chainsOddRow : OpenClaim := { program := "ytlbammfnkphajaagreatdoor", sum := "06151bc5eceee18387582e13f74ec2e3962fea702423c69f8228b939857525b1", func := "wainwright/wainwrightlaw14.ChainsOdd", spec := "chainsOdd", inPlace := ["internal/abi.NoEscape", "internal/bytealg.MakeNoZero", "internal/bytealg.IndexByteString", "internal/bytealg.IndexString"], unfollowed := true, recurses := true, named := ["unicode/utf8.first", "unicode/utf8.acceptRanges", "internal/bytealg.MaxLen"], apart := false, laid := [("unicode/utf8.acceptRanges", laid_unicode_utf8_acceptRanges), ("unicode/utf8.first", laid_unicode_utf8_first)] }
def ChainsOddSaid : Prop := chainsOddRow.holds Tryz.pinned (OpenSpec.ofChange chainsOddSpec)

/-- ITS FALSE NEIGHBOUR: 'it returns false'. Refute it at one input. -/
def chainsOddWrong : ChangeSpec := { name := "chainsOdd", fn := fun _ => fun
  | [d1, d2] => { results := [.lit (.bool false)], args := [d1, d2] }
  | _ => none }
def ChainsOddWrongFalsely : Prop := chainsOddRow.holds Tryz.pinned (OpenSpec.ofChange chainsOddWrong)

/-- 'wainwrightlaw14.ChainsDrop': WHATEVER THE INPUT: true; the input reads as it did. -/
def chainsDropSpec : ChangeSpec := { name := "chainsDrop", fn := fun _ => fun
  | [d1, d2] => { results := [.lit (.bool true)], args := [d1, d2] }
  | _ => none }
def chainsDropRow : OpenClaim := { program := "ytlbammfnkphajaagreatdoor", sum := "06151bc5eceee18387582e13f74ec2e3962fea702423c69f8228b939857525b1", func := "wainwright/wainwrightlaw14.ChainsDrop", spec := "chainsDrop", inPlace := ["internal/abi.NoEscape", "internal/bytealg.MakeNoZero", "internal/bytealg.IndexByteString", "internal/bytealg.IndexString"], unfollowed := true, recurses := true, named := ["unicode/utf8.first", "unicode/utf8.acceptRanges", "internal/bytealg.MaxLen"], apart := false, laid := [("unicode/utf8.acceptRanges", laid_unicode_utf8_acceptRanges), ("unicode/utf8.first", laid_unicode_utf8_first)] }
def ChainsDropSaid : Prop := chainsDropRow.holds Tryz.pinned (OpenSpec.ofChange chainsDropSpec)

/-- ITS FALSE NEIGHBOUR: 'it returns false'. Refute it at one input. -/
def chainsDropWrong : ChangeSpec := { name := "chainsDrop", fn := fun _ => fun
  | [d1, d2] => { results := [.lit (.bool false)], args := [d1, d2] }
  | _ => none }
def ChainsDropWrongFalsely : Prop := chainsDropRow.holds Tryz.pinned (OpenSpec.ofChange chainsDropWrong)

/-- 'wainwrightlaw15.RunsBack': WHATEVER THE INPUT: true; the input reads as it did. -/
def runsBackSpec : ChangeSpec := { name := "runsBack", fn := fun _ => fun
  | [d1, d2] => { results := [.lit (.bool true)], args := [d1, d2] }
  | _ => none }
def runsBackRow : OpenClaim := { program := "ytlbammfnkphajaagreatdoor", sum := "06151bc5eceee18387582e13f74ec2e3962fea702423c69f8228b939857525b1", func := "wainwright/wainwrightlaw15.RunsBack", spec := "runsBack", inPlace := ["internal/abi.NoEscape", "internal/bytealg.MakeNoZero", "internal/bytealg.IndexByteString", "internal/bytealg.IndexString"], unfollowed := true, recurses := true, named := ["unicode/utf8.first", "unicode/utf8.acceptRanges", "internal/bytealg.MaxLen"], apart := false, laid := [("unicode/utf8.acceptRanges", laid_unicode_utf8_acceptRanges), ("unicode/utf8.first", laid_unicode_utf8_first)] }
def RunsBackSaid : Prop := runsBackRow.holds Tryz.pinned (OpenSpec.ofChange runsBackSpec)

/-- ITS FALSE NEIGHBOUR: 'it returns false'. Refute it at one input. -/
def runsBackWrong : ChangeSpec := { name := "runsBack", fn := fun _ => fun
  | [d1, d2] => { results := [.lit (.bool false)], args := [d1, d2] }
  | _ => none }
def RunsBackWrongFalsely : Prop := runsBackRow.holds Tryz.pinned (OpenSpec.ofChange runsBackWrong)

/-- 'wainwrightlaw14.ChainsBack': WHATEVER THE INPUT: true; the input reads as it did. -/
def chainsBackSpec : ChangeSpec := { name := "chainsBack", fn := fun _ => fun
  | [d1, d2] => { results := [.lit (.bool true)], args := [d1, d2] }
  | _ => none }
def chainsBackRow : OpenClaim := { program := "ytlbammfnkphajaagreatdoor", sum := "06151bc5eceee18387582e13f74ec2e3962fea702423c69f8228b939857525b1", func := "wainwright/wainwrightlaw14.ChainsBack", spec := "chainsBack", inPlace := ["internal/abi.NoEscape", "internal/bytealg.MakeNoZero", "internal/bytealg.IndexByteString", "internal/bytealg.IndexString"], unfollowed := true, recurses := true, named := ["unicode/utf8.first", "unicode/utf8.acceptRanges", "internal/bytealg.MaxLen"], apart := false, laid := [("unicode/utf8.acceptRanges", laid_unicode_utf8_acceptRanges), ("unicode/utf8.first", laid_unicode_utf8_first)] }
def ChainsBackSaid : Prop := chainsBackRow.holds Tryz.pinned (OpenSpec.ofChange chainsBackSpec)

/-- ITS FALSE NEIGHBOUR: 'it returns false'. Refute it at one input. -/
def chainsBackWrong : ChangeSpec := { name := "chainsBack", fn := fun _ => fun
  | [d1, d2] => { results := [.lit (.bool false)], args := [d1, d2] }
  | _ => none }
def ChainsBackWrongFalsely : Prop := chainsBackRow.holds Tryz.pinned (OpenSpec.ofChange chainsBackWrong)

/- THE SECOND FORM. 'bulk': how many values and letters a reading holds, each counted each time it is reached (what is shared counts as often as it is met; a slice's spare places count too). A statement '..UptoSaid' is the law's where the arguments, and the package variables that the reading takes, are together of bulk at most 1048576: NARROWER than '..Said'. Prove '..Said' where nothing that the law and all that it calls make is longer than what came in: it says more and counts as full. Else prove '..UptoSaid'. A law counts once. -/
mutual
def uptoBulk {H : Type} : DataW H → Nat
  | .lit (.string bytes) => bytes.length + 1
  | .lit _ => 1
  | .nil => 1
  | .ptr d => uptoBulk d + 1
  | .slice elems spare => uptoBulkAll elems + uptoBulkAll spare + 1
  | .agg parts => uptoBulkAll parts + 1
  | .iface _ d => uptoBulk d + 1
  | .map entries => uptoBulkEntries entries + 1
  | .held _ => 1
def uptoBulkAll {H : Type} : List (DataW H) → Nat
  | [] => 0
  | d :: r => uptoBulk d + uptoBulkAll r
def uptoBulkEntries {H : Type} : List (Lit × DataW H) → Nat
  | [] => 0
  | x :: r => uptoBulkEntry x + uptoBulkEntries r
def uptoBulkEntry {H : Type} : Lit × DataW H → Nat
  | (.string bytes, d) => bytes.length + uptoBulk d + 1
  | (_, d) => uptoBulk d + 1
 end
def uptoSmall : (H : Type) → List (DataW H) → Bool := fun _ ds => decide (uptoBulkAll ds ≤ 1048576)
def OpenSpec.upto (s : _root_.Go.ChangeSpec) : _root_.Go.OpenSpec := { _root_.Go.OpenSpec.ofChange s with cond := some uptoSmall }

/-- 'wainwrightlaw15.RunsApart', WHERE WHAT IT READS IS OF BULK AT MOST 1048576: true; the input reads as it did. -/
def runsApartUptoRow : OpenClaim := { program := "ytlbammfnkphajaagreatdoor", sum := "06151bc5eceee18387582e13f74ec2e3962fea702423c69f8228b939857525b1", func := "wainwright/wainwrightlaw15.RunsApart", spec := "runsApart", inPlace := ["internal/abi.NoEscape", "internal/bytealg.MakeNoZero", "internal/bytealg.IndexByteString", "internal/bytealg.IndexString"], unfollowed := true, recurses := true, named := ["unicode/utf8.first", "unicode/utf8.acceptRanges", "internal/bytealg.MaxLen"], apart := false, laid := [("unicode/utf8.acceptRanges", laid_unicode_utf8_acceptRanges), ("unicode/utf8.first", laid_unicode_utf8_first)], narrowed := true }
def RunsApartUptoSaid : Prop := runsApartUptoRow.holds Tryz.pinned (OpenSpec.upto runsApartSpec)

/-- 'wainwrightlaw15.RunsOdd', WHERE WHAT IT READS IS OF BULK AT MOST 1048576: true; the input reads as it did. -/
def runsOddUptoRow : OpenClaim := { program := "ytlbammfnkphajaagreatdoor", sum := "06151bc5eceee18387582e13f74ec2e3962fea702423c69f8228b939857525b1", func := "wainwright/wainwrightlaw15.RunsOdd", spec := "runsOdd", inPlace := ["internal/abi.NoEscape", "internal/bytealg.MakeNoZero", "internal/bytealg.IndexByteString", "internal/bytealg.IndexString"], unfollowed := true, recurses := true, named := ["unicode/utf8.first", "unicode/utf8.acceptRanges", "internal/bytealg.MaxLen"], apart := false, laid := [("unicode/utf8.acceptRanges", laid_unicode_utf8_acceptRanges), ("unicode/utf8.first", laid_unicode_utf8_first)], narrowed := true }
def RunsOddUptoSaid : Prop := runsOddUptoRow.holds Tryz.pinned (OpenSpec.upto runsOddSpec)

/-- 'wainwrightlaw15.RunsDrop', WHERE WHAT IT READS IS OF BULK AT MOST 1048576: true; the input reads as it did. -/
def runsDropUptoRow : OpenClaim := { program := "ytlbammfnkphajaagreatdoor", sum := "06151bc5eceee18387582e13f74ec2e3962fea702423c69f8228b939857525b1", func := "wainwright/wainwrightlaw15.RunsDrop", spec := "runsDrop", inPlace := ["internal/abi.NoEscape", "internal/bytealg.MakeNoZero", "internal/bytealg.IndexByteString", "internal/bytealg.IndexString"], unfollowed := true, recurses := true, named := ["unicode/utf8.first", "unicode/utf8.acceptRanges", "internal/bytealg.MaxLen"], apart := false, laid := [("unicode/utf8.acceptRanges", laid_unicode_utf8_acceptRanges), ("unicode/utf8.first", laid_unicode_utf8_first)], narrowed := true }
def RunsDropUptoSaid : Prop := runsDropUptoRow.holds Tryz.pinned (OpenSpec.upto runsDropSpec)

/-- 'wainwrightlaw14.ChainsApart', WHERE WHAT IT READS IS OF BULK AT MOST 1048576: true; the input reads as it did. -/
def chainsApartUptoRow : OpenClaim := { program := "ytlbammfnkphajaagreatdoor", sum := "06151bc5eceee18387582e13f74ec2e3962fea702423c69f8228b939857525b1", func := "wainwright/wainwrightlaw14.ChainsApart", spec := "chainsApart", inPlace := ["internal/abi.NoEscape", "internal/bytealg.MakeNoZero", "internal/bytealg.IndexByteString", "internal/bytealg.IndexString"], unfollowed := true, recurses := true, named := ["unicode/utf8.first", "unicode/utf8.acceptRanges", "internal/bytealg.MaxLen"], apart := false, laid := [("unicode/utf8.acceptRanges", laid_unicode_utf8_acceptRanges), ("unicode/utf8.first", laid_unicode_utf8_first)], narrowed := true }
def ChainsApartUptoSaid : Prop := chainsApartUptoRow.holds Tryz.pinned (OpenSpec.upto chainsApartSpec)

/-- 'wainwrightlaw14.ChainsOdd', WHERE WHAT IT READS IS OF BULK AT MOST 1048576: true; the input reads as it did. -/
def chainsOddUptoRow : OpenClaim := { program := "ytlbammfnkphajaagreatdoor", sum := "06151bc5eceee18387582e13f74ec2e3962fea702423c69f8228b939857525b1", func := "wainwright/wainwrightlaw14.ChainsOdd", spec := "chainsOdd", inPlace := ["internal/abi.NoEscape", "internal/bytealg.MakeNoZero", "internal/bytealg.IndexByteString", "internal/bytealg.IndexString"], unfollowed := true, recurses := true, named := ["unicode/utf8.first", "unicode/utf8.acceptRanges", "internal/bytealg.MaxLen"], apart := false, laid := [("unicode/utf8.acceptRanges", laid_unicode_utf8_acceptRanges), ("unicode/utf8.first", laid_unicode_utf8_first)], narrowed := true }
def ChainsOddUptoSaid : Prop := chainsOddUptoRow.holds Tryz.pinned (OpenSpec.upto chainsOddSpec)

/-- 'wainwrightlaw14.ChainsDrop', WHERE WHAT IT READS IS OF BULK AT MOST 1048576: true; the input reads as it did. -/
def chainsDropUptoRow : OpenClaim := { program := "ytlbammfnkphajaagreatdoor", sum := "06151bc5eceee18387582e13f74ec2e3962fea702423c69f8228b939857525b1", func := "wainwright/wainwrightlaw14.ChainsDrop", spec := "chainsDrop", inPlace := ["internal/abi.NoEscape", "internal/bytealg.MakeNoZero", "internal/bytealg.IndexByteString", "internal/bytealg.IndexString"], unfollowed := true, recurses := true, named := ["unicode/utf8.first", "unicode/utf8.acceptRanges", "internal/bytealg.MaxLen"], apart := false, laid := [("unicode/utf8.acceptRanges", laid_unicode_utf8_acceptRanges), ("unicode/utf8.first", laid_unicode_utf8_first)], narrowed := true }
def ChainsDropUptoSaid : Prop := chainsDropUptoRow.holds Tryz.pinned (OpenSpec.upto chainsDropSpec)

/-- 'wainwrightlaw15.RunsBack', WHERE WHAT IT READS IS OF BULK AT MOST 1048576: true; the input reads as it did. -/
def runsBackUptoRow : OpenClaim := { program := "ytlbammfnkphajaagreatdoor", sum := "06151bc5eceee18387582e13f74ec2e3962fea702423c69f8228b939857525b1", func := "wainwright/wainwrightlaw15.RunsBack", spec := "runsBack", inPlace := ["internal/abi.NoEscape", "internal/bytealg.MakeNoZero", "internal/bytealg.IndexByteString", "internal/bytealg.IndexString"], unfollowed := true, recurses := true, named := ["unicode/utf8.first", "unicode/utf8.acceptRanges", "internal/bytealg.MaxLen"], apart := false, laid := [("unicode/utf8.acceptRanges", laid_unicode_utf8_acceptRanges), ("unicode/utf8.first", laid_unicode_utf8_first)], narrowed := true }
def RunsBackUptoSaid : Prop := runsBackUptoRow.holds Tryz.pinned (OpenSpec.upto runsBackSpec)

/-- 'wainwrightlaw14.ChainsBack', WHERE WHAT IT READS IS OF BULK AT MOST 1048576: true; the input reads as it did. -/
def chainsBackUptoRow : OpenClaim := { program := "ytlbammfnkphajaagreatdoor", sum := "06151bc5eceee18387582e13f74ec2e3962fea702423c69f8228b939857525b1", func := "wainwright/wainwrightlaw14.ChainsBack", spec := "chainsBack", inPlace := ["internal/abi.NoEscape", "internal/bytealg.MakeNoZero", "internal/bytealg.IndexByteString", "internal/bytealg.IndexString"], unfollowed := true, recurses := true, named := ["unicode/utf8.first", "unicode/utf8.acceptRanges", "internal/bytealg.MaxLen"], apart := false, laid := [("unicode/utf8.acceptRanges", laid_unicode_utf8_acceptRanges), ("unicode/utf8.first", laid_unicode_utf8_first)], narrowed := true }
def ChainsBackUptoSaid : Prop := chainsBackUptoRow.holds Tryz.pinned (OpenSpec.upto chainsBackSpec)

end Rows
end Go.Proofs.YtlbammfnkphajaaGreatDoor
