/-
  NARROWER THAN 'FOR EVERY INPUT', by the rows' own cells (each row's printed sentence says how): RollsChange: laid · RollsStay: laid · RollsTell: laid · RollsPlay: laid · RollsBlocks: laid.
  DERIVED. THE GIVEN ROWS OF THIS SEAT. 5 by the template 'for every input the law returns true; each argument reads behind the call as it read before'; 0 by the template 'total and deterministic' (their statements: YtnbhmifidhoblaaDoorTotals.lean).
  GIVEN WITH THE SEED: the statements are not yours to turn. If you find one false, say at which input.
  Laid BY PROGRAM, IN A SANDBOX (cutbox-rows.mjs): the forced cells as the released guide's own fill.sh prints them over the translation f06f7d0006856009… (all of the seat's roots in one cut). By AI agents, Wed Nov 11 2026. No macro, syntax, notation, axiom, sorry.
-/
import Derived.Test.YtnbhmifidhoblaaDoorChecked
import GoSem.PinnedTables
import GoSem.Claim
import GoSem.ClaimJoined
import GoSem.ClaimMapViews
import Derived.JoinedTies
import Derived.KernelRfl
namespace Go.Proofs.YtnbhmifidhoblaaDoor
/- THE CELL 'sum', in the pinned program and in every row, IS THE sha256 OF THE DUMP (.gsa) THAT YtnbhmifidhoblaaDoorProg.lean LOADS. Nothing in Lean hashes anything: it is a label: what it is worth is what the hold of that sum in a sandbox is worth. -/
noncomputable def Tryd.pinned : Pinned := { name := "ytnbhmifidhoblaadoor", sum := "f06f7d0006856009afb49b3228fe240f58b6d48c54476c5d5510e52de10e7c0d", checked := Tryd.checked }
namespace Rows
def none {H : Type} : Left H := { results := [], args := [] }

/- WHAT THE LISTED PACKAGE-LEVEL VARIABLES READ AS WHEN THE CALL BEGINS. Each datum BY PROGRAM (the guide's laid-datum.mjs) off the statement by which the dump's own 'gosem.cut.vars' lays the variable. In a bare row this is a premise. The card (YtnbhmifidhoblaaDoorCards.lean) ties it to the program's text. -/
def laid_unicode_utf8_acceptRanges {H : Type} : DataW H := .agg [.agg [.lit (.int .u8 128), .lit (.int .u8 191)], .agg [.lit (.int .u8 160), .lit (.int .u8 191)], .agg [.lit (.int .u8 128), .lit (.int .u8 159)], .agg [.lit (.int .u8 144), .lit (.int .u8 191)], .agg [.lit (.int .u8 128), .lit (.int .u8 143)], .agg [.lit (.int .u8 0), .lit (.int .u8 0)], .agg [.lit (.int .u8 0), .lit (.int .u8 0)], .agg [.lit (.int .u8 0), .lit (.int .u8 0)], .agg [.lit (.int .u8 0), .lit (.int .u8 0)], .agg [.lit (.int .u8 0), .lit (.int .u8 0)], .agg [.lit (.int .u8 0), .lit (.int .u8 0)], .agg [.lit (.int .u8 0), .lit (.int .u8 0)], .agg [.lit (.int .u8 0), .lit (.int .u8 0)], .agg [.lit (.int .u8 0), .lit (.int .u8 0)], .agg [.lit (.int .u8 0), .lit (.int .u8 0)], .agg [.lit (.int .u8 0), .lit (.int .u8 0)]]
/-- One of Go's own tables, pinned by name: the form's constant. -/
def laid_unicode_utf8_first : DataW Unit := Go.Pinned.utf8First

/-- 'wainwrightlaw07.RollsChange': WHATEVER THE INPUT: true; the input reads as it did. -/
def rollsChangeSpec : ChangeSpec := { name := "rollsChange", fn := fun _ => fun
  | [d1, d2, d3] => { results := [.lit (.bool true)], args := [d1, d2, d3] }
  | _ => none }
def rollsChangeRow : OpenClaim := { program := "ytnbhmifidhoblaadoor", sum := "f06f7d0006856009afb49b3228fe240f58b6d48c54476c5d5510e52de10e7c0d", func := "wainwright/wainwrightlaw07.RollsChange", spec := "rollsChange", inPlace := ["internal/bytealg.IndexByteString", "internal/bytealg.IndexString"], unfollowed := true, recurses := true, named := ["unicode/utf8.first", "unicode/utf8.acceptRanges", "internal/bytealg.MaxLen"], apart := false, laid := [("unicode/utf8.acceptRanges", laid_unicode_utf8_acceptRanges), ("unicode/utf8.first", laid_unicode_utf8_first)] }
def RollsChangeSaid : Prop := rollsChangeRow.holds Tryd.pinned (OpenSpec.ofChange rollsChangeSpec)

/-- ITS FALSE NEIGHBOUR: 'it returns false'. Refute it at one input. -/
def rollsChangeWrong : ChangeSpec := { name := "rollsChange", fn := fun _ => fun
  | [d1, d2, d3] => { results := [.lit (.bool false)], args := [d1, d2, d3] }
  | _ => none }
def RollsChangeWrongFalsely : Prop := rollsChangeRow.holds Tryd.pinned (OpenSpec.ofChange rollsChangeWrong)

/-- 'wainwrightlaw07.RollsStay': WHATEVER THE INPUT: true; the input reads as it did. -/
def rollsStaySpec : ChangeSpec := { name := "rollsStay", fn := fun _ => fun
  | [d1, d2, d3] => { results := [.lit (.bool true)], args := [d1, d2, d3] }
  | _ => none }
def rollsStayRow : OpenClaim := { program := "ytnbhmifidhoblaadoor", sum := "f06f7d0006856009afb49b3228fe240f58b6d48c54476c5d5510e52de10e7c0d", func := "wainwright/wainwrightlaw07.RollsStay", spec := "rollsStay", inPlace := ["internal/bytealg.IndexByteString", "internal/bytealg.IndexString"], unfollowed := true, recurses := true, named := ["unicode/utf8.first", "unicode/utf8.acceptRanges", "internal/bytealg.MaxLen"], apart := false, laid := [("unicode/utf8.acceptRanges", laid_unicode_utf8_acceptRanges), ("unicode/utf8.first", laid_unicode_utf8_first)] }
def RollsStaySaid : Prop := rollsStayRow.holds Tryd.pinned (OpenSpec.ofChange rollsStaySpec)

/-- ITS FALSE NEIGHBOUR: 'it returns false'. Refute it at one input. -/
def rollsStayWrong : ChangeSpec := { name := "rollsStay", fn := fun _ => fun
  | [d1, d2, d3] => { results := [.lit (.bool false)], args := [d1, d2, d3] }
  | _ => none }
def RollsStayWrongFalsely : Prop := rollsStayRow.holds Tryd.pinned (OpenSpec.ofChange rollsStayWrong)

/-- 'wainwrightlaw07.RollsTell': WHATEVER THE INPUT: true; the input reads as it did. -/
def rollsTellSpec : ChangeSpec := { name := "rollsTell", fn := fun _ => fun
  | [d1, d2] => { results := [.lit (.bool true)], args := [d1, d2] }
  | _ => none }
def rollsTellRow : OpenClaim := { program := "ytnbhmifidhoblaadoor", sum := "f06f7d0006856009afb49b3228fe240f58b6d48c54476c5d5510e52de10e7c0d", func := "wainwright/wainwrightlaw07.RollsTell", spec := "rollsTell", inPlace := ["internal/bytealg.IndexByteString", "internal/bytealg.IndexString"], unfollowed := true, recurses := true, named := ["unicode/utf8.first", "unicode/utf8.acceptRanges", "internal/bytealg.MaxLen"], apart := false, laid := [("unicode/utf8.acceptRanges", laid_unicode_utf8_acceptRanges), ("unicode/utf8.first", laid_unicode_utf8_first)] }
def RollsTellSaid : Prop := rollsTellRow.holds Tryd.pinned (OpenSpec.ofChange rollsTellSpec)

/-- ITS FALSE NEIGHBOUR: 'it returns false'. Refute it at one input. -/
def rollsTellWrong : ChangeSpec := { name := "rollsTell", fn := fun _ => fun
  | [d1, d2] => { results := [.lit (.bool false)], args := [d1, d2] }
  | _ => none }
def RollsTellWrongFalsely : Prop := rollsTellRow.holds Tryd.pinned (OpenSpec.ofChange rollsTellWrong)

/-- 'wainwrightlaw07.RollsPlay': WHATEVER THE INPUT: true; the input reads as it did. -/
def rollsPlaySpec : ChangeSpec := { name := "rollsPlay", fn := fun _ => fun
  | [d] => { results := [.lit (.bool true)], args := [d] }
  | _ => none }
def rollsPlayRow : OpenClaim := { program := "ytnbhmifidhoblaadoor", sum := "f06f7d0006856009afb49b3228fe240f58b6d48c54476c5d5510e52de10e7c0d", func := "wainwright/wainwrightlaw07.RollsPlay", spec := "rollsPlay", inPlace := ["internal/bytealg.IndexByteString", "internal/bytealg.IndexString"], unfollowed := true, recurses := true, named := ["unicode/utf8.first", "unicode/utf8.acceptRanges", "internal/bytealg.MaxLen"], apart := false, laid := [("unicode/utf8.acceptRanges", laid_unicode_utf8_acceptRanges), ("unicode/utf8.first", laid_unicode_utf8_first)] }
def RollsPlaySaid : Prop := rollsPlayRow.holds Tryd.pinned (OpenSpec.ofChange rollsPlaySpec)

/-- ITS FALSE NEIGHBOUR: 'it returns false'. Refute it at one input. -/
def rollsPlayWrong : ChangeSpec := { name := "rollsPlay", fn := fun _ => fun
  | [d] => { results := [.lit (.bool false)], args := [d] }
  | _ => none }
def RollsPlayWrongFalsely : Prop := rollsPlayRow.holds Tryd.pinned (OpenSpec.ofChange rollsPlayWrong)

/-- 'wainwrightlaw07.RollsBlocks': WHATEVER THE INPUT: true; the input reads as it did. -/
def rollsBlocksSpec : ChangeSpec := { name := "rollsBlocks", fn := fun _ => fun
  | [d1, d2] => { results := [.lit (.bool true)], args := [d1, d2] }
  | _ => none }
def rollsBlocksRow : OpenClaim := { program := "ytnbhmifidhoblaadoor", sum := "f06f7d0006856009afb49b3228fe240f58b6d48c54476c5d5510e52de10e7c0d", func := "wainwright/wainwrightlaw07.RollsBlocks", spec := "rollsBlocks", inPlace := ["internal/bytealg.IndexByteString", "internal/bytealg.IndexString", "internal/abi.NoEscape", "internal/bytealg.MakeNoZero"], unfollowed := true, recurses := true, named := ["unicode/utf8.first", "unicode/utf8.acceptRanges", "internal/bytealg.MaxLen"], apart := false, laid := [("unicode/utf8.acceptRanges", laid_unicode_utf8_acceptRanges), ("unicode/utf8.first", laid_unicode_utf8_first)] }
def RollsBlocksSaid : Prop := rollsBlocksRow.holds Tryd.pinned (OpenSpec.ofChange rollsBlocksSpec)

/-- ITS FALSE NEIGHBOUR: 'it returns false'. Refute it at one input. -/
def rollsBlocksWrong : ChangeSpec := { name := "rollsBlocks", fn := fun _ => fun
  | [d1, d2] => { results := [.lit (.bool false)], args := [d1, d2] }
  | _ => none }
def RollsBlocksWrongFalsely : Prop := rollsBlocksRow.holds Tryd.pinned (OpenSpec.ofChange rollsBlocksWrong)

/- THE SECOND FORM. 'bulk': how many values and letters a reading holds, each counted each time it is reached (what is shared counts as often as it is met; a slice's spare places count too). A statement '..UptoSaid' is the law's where the arguments, and the package variables that the reading takes, are together of bulk at most 1048576: NARROWER than '..Said'. Prove '..Said' where nothing that the law and all that it calls make is longer than what came in: it says more and counts as full. Else prove '..UptoSaid'. A law counts once. -/
mutual
def uptoBulk {H : Type} : DataW H → Nat
  | .lit (.string bytes) => bytes.length + 1
  | .lit _ => 1
  | .nil => 1
  | .ptr d => uptoBulk d + 1
  | .slice elems spare => uptoBulkAll elems + uptoBulkAll spare + 1
  | .agg parts => uptoBulkAll parts + 1
  | .iface _ d => uptoBulk d + 1
  | .map entries => uptoBulkEntries entries + 1
  | .held _ => 1
def uptoBulkAll {H : Type} : List (DataW H) → Nat
  | [] => 0
  | d :: r => uptoBulk d + uptoBulkAll r
def uptoBulkEntries {H : Type} : List (Lit × DataW H) → Nat
  | [] => 0
  | x :: r => uptoBulkEntry x + uptoBulkEntries r
def uptoBulkEntry {H : Type} : Lit × DataW H → Nat
  | (.string bytes, d) => bytes.length + uptoBulk d + 1
  | (_, d) => uptoBulk d + 1
 end
def uptoSmall : (H : Type) → List (DataW H) → Bool := fun _ ds => decide (uptoBulkAll ds ≤ 1048576)
def OpenSpec.upto (s : _root_.Go.ChangeSpec) : _root_.Go.OpenSpec := { _root_.Go.OpenSpec.ofChange s with cond := some uptoSmall }

/-- 'wainwrightlaw07.RollsChange', WHERE WHAT IT READS IS OF BULK AT MOST 1048576: true; the input reads as it did. -/
def rollsChangeUptoRow : OpenClaim := { program := "ytnbhmifidhoblaadoor", sum := "f06f7d0006856009afb49b3228fe240f58b6d48c54476c5d5510e52de10e7c0d", func := "wainwright/wainwrightlaw07.RollsChange", spec := "rollsChange", inPlace := ["internal/bytealg.IndexByteString", "internal/bytealg.IndexString"], unfollowed := true, recurses := true, named := ["unicode/utf8.first", "unicode/utf8.acceptRanges", "internal/bytealg.MaxLen"], apart := false, laid := [("unicode/utf8.acceptRanges", laid_unicode_utf8_acceptRanges), ("unicode/utf8.first", laid_unicode_utf8_first)], narrowed := true }
def RollsChangeUptoSaid : Prop := rollsChangeUptoRow.holds Tryd.pinned (OpenSpec.upto rollsChangeSpec)

/-- 'wainwrightlaw07.RollsStay', WHERE WHAT IT READS IS OF BULK AT MOST 1048576: true; the input reads as it did. -/
def rollsStayUptoRow : OpenClaim := { program := "ytnbhmifidhoblaadoor", sum := "f06f7d0006856009afb49b3228fe240f58b6d48c54476c5d5510e52de10e7c0d", func := "wainwright/wainwrightlaw07.RollsStay", spec := "rollsStay", inPlace := ["internal/bytealg.IndexByteString", "internal/bytealg.IndexString"], unfollowed := true, recurses := true, named := ["unicode/utf8.first", "unicode/utf8.acceptRanges", "internal/bytealg.MaxLen"], apart := false, laid := [("unicode/utf8.acceptRanges", laid_unicode_utf8_acceptRanges), ("unicode/utf8.first", laid_unicode_utf8_first)], narrowed := true }
def RollsStayUptoSaid : Prop := rollsStayUptoRow.holds Tryd.pinned (OpenSpec.upto rollsStaySpec)

/-- 'wainwrightlaw07.RollsTell', WHERE WHAT IT READS IS OF BULK AT MOST 1048576: true; the input reads as it did. -/
def rollsTellUptoRow : OpenClaim := { program := "ytnbhmifidhoblaadoor", sum := "f06f7d0006856009afb49b3228fe240f58b6d48c54476c5d5510e52de10e7c0d", func := "wainwright/wainwrightlaw07.RollsTell", spec := "rollsTell", inPlace := ["internal/bytealg.IndexByteString", "internal/bytealg.IndexString"], unfollowed := true, recurses := true, named := ["unicode/utf8.first", "unicode/utf8.acceptRanges", "internal/bytealg.MaxLen"], apart := false, laid := [("unicode/utf8.acceptRanges", laid_unicode_utf8_acceptRanges), ("unicode/utf8.first", laid_unicode_utf8_first)], narrowed := true }
def RollsTellUptoSaid : Prop := rollsTellUptoRow.holds Tryd.pinned (OpenSpec.upto rollsTellSpec)

/-- 'wainwrightlaw07.RollsPlay', WHERE WHAT IT READS IS OF BULK AT MOST 1048576: true; the input reads as it did. -/
def rollsPlayUptoRow : OpenClaim := { program := "ytnbhmifidhoblaadoor", sum := "f06f7d0006856009afb49b3228fe240f58b6d48c54476c5d5510e52de10e7c0d", func := "wainwright/wainwrightlaw07.RollsPlay", spec := "rollsPlay", inPlace := ["internal/bytealg.IndexByteString", "internal/bytealg.IndexString"], unfollowed := true, recurses := true, named := ["unicode/utf8.first", "unicode/utf8.acceptRanges", "internal/bytealg.MaxLen"], apart := false, laid := [("unicode/utf8.acceptRanges", laid_unicode_utf8_acceptRanges), ("unicode/utf8.first", laid_unicode_utf8_first)], narrowed := true }
def RollsPlayUptoSaid : Prop := rollsPlayUptoRow.holds Tryd.pinned (OpenSpec.upto rollsPlaySpec)

/-- 'wainwrightlaw07.RollsBlocks', WHERE WHAT IT READS IS OF BULK AT MOST 1048576: true; the input reads as it did. -/
def rollsBlocksUptoRow : OpenClaim := { program := "ytnbhmifidhoblaadoor", sum := "f06f7d0006856009afb49b3228fe240f58b6d48c54476c5d5510e52de10e7c0d", func := "wainwright/wainwrightlaw07.RollsBlocks", spec := "rollsBlocks", inPlace := ["internal/bytealg.IndexByteString", "internal/bytealg.IndexString", "internal/abi.NoEscape", "internal/bytealg.MakeNoZero"], unfollowed := true, recurses := true, named := ["unicode/utf8.first", "unicode/utf8.acceptRanges", "internal/bytealg.MaxLen"], apart := false, laid := [("unicode/utf8.acceptRanges", laid_unicode_utf8_acceptRanges), ("unicode/utf8.first", laid_unicode_utf8_first)], narrowed := true }
def RollsBlocksUptoSaid : Prop := rollsBlocksUptoRow.holds Tryd.pinned (OpenSpec.upto rollsBlocksSpec)

end Rows
end Go.Proofs.YtnbhmifidhoblaaDoor
