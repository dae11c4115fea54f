/-
  No cell of these rows narrows 'for every input' (looked for: loops, veiled, ifaces, maps, wideKeys, modest, calm, conditions, laid).
  DERIVED. THE GIVEN ROWS OF THIS SEAT. 4 by the template 'for every input the law returns true; each argument reads behind the call as it read before'; 0 by the template 'total and deterministic' (their statements: YtnbhmifidhoblaaTotals.lean).
  GIVEN WITH THE SEED: the statements are not yours to turn. If you find one false, say at which input.
  Laid BY PROGRAM, IN A SANDBOX (cutbox-rows.mjs): the forced cells as the released guide's own fill.sh prints them over the translation 361e00195631ceaa… (all of the seat's roots in one cut). By AI agents, Wed Nov 11 2026. No macro, syntax, notation, axiom, sorry.
-/
import Derived.Test.YtnbhmifidhoblaaChecked
import GoSem.Claim
import GoSem.ClaimJoined
import GoSem.ClaimMapViews
import Derived.JoinedTies
import Derived.KernelRfl
namespace Go.Proofs.Ytnbhmifidhoblaa
/- THE CELL 'sum', in the pinned program and in every row, IS THE sha256 OF THE DUMP (.gsa) THAT YtnbhmifidhoblaaProg.lean LOADS. Nothing in Lean hashes anything: it is a label: what it is worth is what the hold of that sum in a sandbox is worth. -/
noncomputable def Try.pinned : Pinned := { name := "ytnbhmifidhoblaa", sum := "361e00195631ceaa1ad73676e3030a552e8af06a5286942f9a1d11299809ced6", checked := Try.checked }
namespace Rows
def none {H : Type} : Left H := { results := [], args := [] }

/-- 'wainwrightlaw04.SpansOf': WHATEVER THE INPUT: true; the input reads as it did. -/
def spansOfSpec : ChangeSpec := { name := "spansOf", fn := fun _ => fun
  | [d1, d2, d3] => { results := [.lit (.bool true)], args := [d1, d2, d3] }
  | _ => none }
def spansOfRow : OpenClaim := { program := "ytnbhmifidhoblaa", sum := "361e00195631ceaa1ad73676e3030a552e8af06a5286942f9a1d11299809ced6", func := "wainwright/wainwrightlaw04.SpansOf", spec := "spansOf", unfollowed := true, recurses := true, apart := false }
def SpansOfSaid : Prop := spansOfRow.holds Try.pinned (OpenSpec.ofChange spansOfSpec)

/-- ITS FALSE NEIGHBOUR: 'it returns false'. Refute it at one input. -/
def spansOfWrong : ChangeSpec := { name := "spansOf", fn := fun _ => fun
  | [d1, d2, d3] => { results := [.lit (.bool false)], args := [d1, d2, d3] }
  | _ => none }
def SpansOfWrongFalsely : Prop := spansOfRow.holds Try.pinned (OpenSpec.ofChange spansOfWrong)

/-- 'wainwrightlaw04.SpansBack': WHATEVER THE INPUT: true; the input reads as it did. -/
def spansBackSpec : ChangeSpec := { name := "spansBack", fn := fun _ => fun
  | [d] => { results := [.lit (.bool true)], args := [d] }
  | _ => none }
def spansBackRow : OpenClaim := { program := "ytnbhmifidhoblaa", sum := "361e00195631ceaa1ad73676e3030a552e8af06a5286942f9a1d11299809ced6", func := "wainwright/wainwrightlaw04.SpansBack", spec := "spansBack", unfollowed := true, recurses := true, apart := false }
def SpansBackSaid : Prop := spansBackRow.holds Try.pinned (OpenSpec.ofChange spansBackSpec)

/-- ITS FALSE NEIGHBOUR: 'it returns false'. Refute it at one input. -/
def spansBackWrong : ChangeSpec := { name := "spansBack", fn := fun _ => fun
  | [d] => { results := [.lit (.bool false)], args := [d] }
  | _ => none }
def SpansBackWrongFalsely : Prop := spansBackRow.holds Try.pinned (OpenSpec.ofChange spansBackWrong)

/-- 'wainwrightlaw04.SpansCut': WHATEVER THE INPUT: true; the input reads as it did. -/
def spansCutSpec : ChangeSpec := { name := "spansCut", fn := fun _ => fun
  | [d1, d2, d3] => { results := [.lit (.bool true)], args := [d1, d2, d3] }
  | _ => none }
def spansCutRow : OpenClaim := { program := "ytnbhmifidhoblaa", sum := "361e00195631ceaa1ad73676e3030a552e8af06a5286942f9a1d11299809ced6", func := "wainwright/wainwrightlaw04.SpansCut", spec := "spansCut", unfollowed := true, recurses := true, apart := false }
def SpansCutSaid : Prop := spansCutRow.holds Try.pinned (OpenSpec.ofChange spansCutSpec)

/-- ITS FALSE NEIGHBOUR: 'it returns false'. Refute it at one input. -/
def spansCutWrong : ChangeSpec := { name := "spansCut", fn := fun _ => fun
  | [d1, d2, d3] => { results := [.lit (.bool false)], args := [d1, d2, d3] }
  | _ => none }
def SpansCutWrongFalsely : Prop := spansCutRow.holds Try.pinned (OpenSpec.ofChange spansCutWrong)

/-- 'wainwrightlaw04.SpansOnly': WHATEVER THE INPUT: true; the input reads as it did. -/
def spansOnlySpec : ChangeSpec := { name := "spansOnly", fn := fun _ => fun
  | [d] => { results := [.lit (.bool true)], args := [d] }
  | _ => none }
def spansOnlyRow : OpenClaim := { program := "ytnbhmifidhoblaa", sum := "361e00195631ceaa1ad73676e3030a552e8af06a5286942f9a1d11299809ced6", func := "wainwright/wainwrightlaw04.SpansOnly", spec := "spansOnly", unfollowed := true, recurses := true, apart := false }
def SpansOnlySaid : Prop := spansOnlyRow.holds Try.pinned (OpenSpec.ofChange spansOnlySpec)

/-- ITS FALSE NEIGHBOUR: 'it returns false'. Refute it at one input. -/
def spansOnlyWrong : ChangeSpec := { name := "spansOnly", fn := fun _ => fun
  | [d] => { results := [.lit (.bool false)], args := [d] }
  | _ => none }
def SpansOnlyWrongFalsely : Prop := spansOnlyRow.holds Try.pinned (OpenSpec.ofChange spansOnlyWrong)

/- THE SECOND FORM. 'bulk': how many values and letters a reading holds, each counted each time it is reached (what is shared counts as often as it is met; a slice's spare places count too). A statement '..UptoSaid' is the law's where the arguments, and the package variables that the reading takes, are together of bulk at most 1048576: NARROWER than '..Said'. Prove '..Said' where nothing that the law and all that it calls make is longer than what came in: it says more and counts as full. Else prove '..UptoSaid'. A law counts once. -/
mutual
def uptoBulk {H : Type} : DataW H → Nat
  | .lit (.string bytes) => bytes.length + 1
  | .lit _ => 1
  | .nil => 1
  | .ptr d => uptoBulk d + 1
  | .slice elems spare => uptoBulkAll elems + uptoBulkAll spare + 1
  | .agg parts => uptoBulkAll parts + 1
  | .iface _ d => uptoBulk d + 1
  | .map entries => uptoBulkEntries entries + 1
  | .held _ => 1
def uptoBulkAll {H : Type} : List (DataW H) → Nat
  | [] => 0
  | d :: r => uptoBulk d + uptoBulkAll r
def uptoBulkEntries {H : Type} : List (Lit × DataW H) → Nat
  | [] => 0
  | x :: r => uptoBulkEntry x + uptoBulkEntries r
def uptoBulkEntry {H : Type} : Lit × DataW H → Nat
  | (.string bytes, d) => bytes.length + uptoBulk d + 1
  | (_, d) => uptoBulk d + 1
 end
def uptoSmall : (H : Type) → List (DataW H) → Bool := fun _ ds => decide (uptoBulkAll ds ≤ 1048576)
def OpenSpec.upto (s : _root_.Go.ChangeSpec) : _root_.Go.OpenSpec := { _root_.Go.OpenSpec.ofChange s with cond := some uptoSmall }

/-- 'wainwrightlaw04.SpansOf', WHERE WHAT IT READS IS OF BULK AT MOST 1048576: true; the input reads as it did. -/
def spansOfUptoRow : OpenClaim := { program := "ytnbhmifidhoblaa", sum := "361e00195631ceaa1ad73676e3030a552e8af06a5286942f9a1d11299809ced6", func := "wainwright/wainwrightlaw04.SpansOf", spec := "spansOf", unfollowed := true, recurses := true, apart := false, narrowed := true }
def SpansOfUptoSaid : Prop := spansOfUptoRow.holds Try.pinned (OpenSpec.upto spansOfSpec)

/-- 'wainwrightlaw04.SpansBack', WHERE WHAT IT READS IS OF BULK AT MOST 1048576: true; the input reads as it did. -/
def spansBackUptoRow : OpenClaim := { program := "ytnbhmifidhoblaa", sum := "361e00195631ceaa1ad73676e3030a552e8af06a5286942f9a1d11299809ced6", func := "wainwright/wainwrightlaw04.SpansBack", spec := "spansBack", unfollowed := true, recurses := true, apart := false, narrowed := true }
def SpansBackUptoSaid : Prop := spansBackUptoRow.holds Try.pinned (OpenSpec.upto spansBackSpec)

/-- 'wainwrightlaw04.SpansCut', WHERE WHAT IT READS IS OF BULK AT MOST 1048576: true; the input reads as it did. -/
def spansCutUptoRow : OpenClaim := { program := "ytnbhmifidhoblaa", sum := "361e00195631ceaa1ad73676e3030a552e8af06a5286942f9a1d11299809ced6", func := "wainwright/wainwrightlaw04.SpansCut", spec := "spansCut", unfollowed := true, recurses := true, apart := false, narrowed := true }
def SpansCutUptoSaid : Prop := spansCutUptoRow.holds Try.pinned (OpenSpec.upto spansCutSpec)

/-- 'wainwrightlaw04.SpansOnly', WHERE WHAT IT READS IS OF BULK AT MOST 1048576: true; the input reads as it did. -/
def spansOnlyUptoRow : OpenClaim := { program := "ytnbhmifidhoblaa", sum := "361e00195631ceaa1ad73676e3030a552e8af06a5286942f9a1d11299809ced6", func := "wainwright/wainwrightlaw04.SpansOnly", spec := "spansOnly", unfollowed := true, recurses := true, apart := false, narrowed := true }
def SpansOnlyUptoSaid : Prop := spansOnlyUptoRow.holds Try.pinned (OpenSpec.upto spansOnlySpec)

end Rows
end Go.Proofs.Ytnbhmifidhoblaa
