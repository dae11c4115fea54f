/-
  No cell of these rows narrows 'for every input' (looked for: loops, veiled, ifaces, maps, wideKeys, modest, calm, conditions, laid).
  DERIVED. THE GIVEN ROWS OF THIS SEAT. 4 by the template 'for every input the law returns true; each argument reads behind the call as it read before'; 0 by the template 'total and deterministic' (their statements: YtejeollidbbknaaTotals.lean).
  GIVEN WITH THE SEED: the statements are not yours to turn. If you find one false, say at which input.
  Laid BY PROGRAM, IN A SANDBOX (cutbox-rows.mjs): the forced cells as the released guide's own fill.sh prints them over the translation e07bdbaf6d3a8d2f… (all of the seat's roots in one cut). By AI agents, Wed Nov 11 2026. No macro, syntax, notation, axiom, sorry.
-/
import Derived.Test.YtejeollidbbknaaChecked
import GoSem.Claim
import GoSem.ClaimJoined
import GoSem.ClaimMapViews
import Derived.JoinedTies
import Derived.KernelRfl
namespace Go.Proofs.Ytejeollidbbknaa
/- THE CELL 'sum', in the pinned program and in every row, IS THE sha256 OF THE DUMP (.gsa) THAT YtejeollidbbknaaProg.lean LOADS. Nothing in Lean hashes anything: it is a label: what it is worth is what the hold of that sum in a sandbox is worth. -/
noncomputable def Try.pinned : Pinned := { name := "ytejeollidbbknaa", sum := "e07bdbaf6d3a8d2f9fde0f8d72d149daaddbb158c2c6e47ad3ba85b13ad5fb12", checked := Try.checked }
namespace Rows
def none {H : Type} : Left H := { results := [], args := [] }

/-- 'wainwrightlaw02.SlabLoads': WHATEVER THE INPUT: true; the input reads as it did. -/
def slabLoadsSpec : ChangeSpec := { name := "slabLoads", fn := fun _ => fun
  | [d1, d2] => { results := [.lit (.bool true)], args := [d1, d2] }
  | _ => none }
def slabLoadsRow : OpenClaim := { program := "ytejeollidbbknaa", sum := "e07bdbaf6d3a8d2f9fde0f8d72d149daaddbb158c2c6e47ad3ba85b13ad5fb12", func := "wainwright/wainwrightlaw02.SlabLoads", spec := "slabLoads", inPlace := ["internal/abi.NoEscape", "internal/bytealg.MakeNoZero"], unfollowed := true, recurses := true, apart := false }
def SlabLoadsSaid : Prop := slabLoadsRow.holds Try.pinned (OpenSpec.ofChange slabLoadsSpec)

/-- ITS FALSE NEIGHBOUR: 'it returns false'. Refute it at one input. -/
def slabLoadsWrong : ChangeSpec := { name := "slabLoads", fn := fun _ => fun
  | [d1, d2] => { results := [.lit (.bool false)], args := [d1, d2] }
  | _ => none }
def SlabLoadsWrongFalsely : Prop := slabLoadsRow.holds Try.pinned (OpenSpec.ofChange slabLoadsWrong)

/-- 'wainwrightlaw02.SlabStops': WHATEVER THE INPUT: true; the input reads as it did. -/
def slabStopsSpec : ChangeSpec := { name := "slabStops", fn := fun _ => fun
  | [d1, d2] => { results := [.lit (.bool true)], args := [d1, d2] }
  | _ => none }
def slabStopsRow : OpenClaim := { program := "ytejeollidbbknaa", sum := "e07bdbaf6d3a8d2f9fde0f8d72d149daaddbb158c2c6e47ad3ba85b13ad5fb12", func := "wainwright/wainwrightlaw02.SlabStops", spec := "slabStops", inPlace := ["internal/abi.NoEscape", "internal/bytealg.MakeNoZero"], unfollowed := true, recurses := true, apart := false }
def SlabStopsSaid : Prop := slabStopsRow.holds Try.pinned (OpenSpec.ofChange slabStopsSpec)

/-- ITS FALSE NEIGHBOUR: 'it returns false'. Refute it at one input. -/
def slabStopsWrong : ChangeSpec := { name := "slabStops", fn := fun _ => fun
  | [d1, d2] => { results := [.lit (.bool false)], args := [d1, d2] }
  | _ => none }
def SlabStopsWrongFalsely : Prop := slabStopsRow.holds Try.pinned (OpenSpec.ofChange slabStopsWrong)

/-- 'wainwrightlaw02.SlabNil': WHATEVER THE INPUT: true; the input reads as it did. -/
def slabNilSpec : ChangeSpec := { name := "slabNil", fn := fun _ => fun
  | [d] => { results := [.lit (.bool true)], args := [d] }
  | _ => none }
def slabNilRow : OpenClaim := { program := "ytejeollidbbknaa", sum := "e07bdbaf6d3a8d2f9fde0f8d72d149daaddbb158c2c6e47ad3ba85b13ad5fb12", func := "wainwright/wainwrightlaw02.SlabNil", spec := "slabNil", inPlace := ["internal/abi.NoEscape", "internal/bytealg.MakeNoZero"], unfollowed := true, recurses := true, apart := false }
def SlabNilSaid : Prop := slabNilRow.holds Try.pinned (OpenSpec.ofChange slabNilSpec)

/-- ITS FALSE NEIGHBOUR: 'it returns false'. Refute it at one input. -/
def slabNilWrong : ChangeSpec := { name := "slabNil", fn := fun _ => fun
  | [d] => { results := [.lit (.bool false)], args := [d] }
  | _ => none }
def SlabNilWrongFalsely : Prop := slabNilRow.holds Try.pinned (OpenSpec.ofChange slabNilWrong)

/-- 'wainwrightlaw02.SlabKeeps': WHATEVER THE INPUT: true; the input reads as it did. -/
def slabKeepsSpec : ChangeSpec := { name := "slabKeeps", fn := fun _ => fun
  | [d1, d2] => { results := [.lit (.bool true)], args := [d1, d2] }
  | _ => none }
def slabKeepsRow : OpenClaim := { program := "ytejeollidbbknaa", sum := "e07bdbaf6d3a8d2f9fde0f8d72d149daaddbb158c2c6e47ad3ba85b13ad5fb12", func := "wainwright/wainwrightlaw02.SlabKeeps", spec := "slabKeeps", inPlace := ["internal/abi.NoEscape", "internal/bytealg.MakeNoZero"], unfollowed := true, recurses := true, apart := false }
def SlabKeepsSaid : Prop := slabKeepsRow.holds Try.pinned (OpenSpec.ofChange slabKeepsSpec)

/-- ITS FALSE NEIGHBOUR: 'it returns false'. Refute it at one input. -/
def slabKeepsWrong : ChangeSpec := { name := "slabKeeps", fn := fun _ => fun
  | [d1, d2] => { results := [.lit (.bool false)], args := [d1, d2] }
  | _ => none }
def SlabKeepsWrongFalsely : Prop := slabKeepsRow.holds Try.pinned (OpenSpec.ofChange slabKeepsWrong)

/- THE SECOND FORM. 'bulk': how many values and letters a reading holds, each counted each time it is reached (what is shared counts as often as it is met; a slice's spare places count too). A statement '..UptoSaid' is the law's where the arguments, and the package variables that the reading takes, are together of bulk at most 1048576: NARROWER than '..Said'. Prove '..Said' where nothing that the law and all that it calls make is longer than what came in: it says more and counts as full. Else prove '..UptoSaid'. A law counts once. -/
mutual
def uptoBulk {H : Type} : DataW H → Nat
  | .lit (.string bytes) => bytes.length + 1
  | .lit _ => 1
  | .nil => 1
  | .ptr d => uptoBulk d + 1
  | .slice elems spare => uptoBulkAll elems + uptoBulkAll spare + 1
  | .agg parts => uptoBulkAll parts + 1
  | .iface _ d => uptoBulk d + 1
  | .map entries => uptoBulkEntries entries + 1
  | .held _ => 1
def uptoBulkAll {H : Type} : List (DataW H) → Nat
  | [] => 0
  | d :: r => uptoBulk d + uptoBulkAll r
def uptoBulkEntries {H : Type} : List (Lit × DataW H) → Nat
  | [] => 0
  | x :: r => uptoBulkEntry x + uptoBulkEntries r
def uptoBulkEntry {H : Type} : Lit × DataW H → Nat
  | (.string bytes, d) => bytes.length + uptoBulk d + 1
  | (_, d) => uptoBulk d + 1
 end
def uptoSmall : (H : Type) → List (DataW H) → Bool := fun _ ds => decide (uptoBulkAll ds ≤ 1048576)
def OpenSpec.upto (s : _root_.Go.ChangeSpec) : _root_.Go.OpenSpec := { _root_.Go.OpenSpec.ofChange s with cond := some uptoSmall }

/-- 'wainwrightlaw02.SlabLoads', WHERE WHAT IT READS IS OF BULK AT MOST 1048576: true; the input reads as it did. -/
def slabLoadsUptoRow : OpenClaim := { program := "ytejeollidbbknaa", sum := "e07bdbaf6d3a8d2f9fde0f8d72d149daaddbb158c2c6e47ad3ba85b13ad5fb12", func := "wainwright/wainwrightlaw02.SlabLoads", spec := "slabLoads", inPlace := ["internal/abi.NoEscape", "internal/bytealg.MakeNoZero"], unfollowed := true, recurses := true, apart := false, narrowed := true }
def SlabLoadsUptoSaid : Prop := slabLoadsUptoRow.holds Try.pinned (OpenSpec.upto slabLoadsSpec)

/-- 'wainwrightlaw02.SlabStops', WHERE WHAT IT READS IS OF BULK AT MOST 1048576: true; the input reads as it did. -/
def slabStopsUptoRow : OpenClaim := { program := "ytejeollidbbknaa", sum := "e07bdbaf6d3a8d2f9fde0f8d72d149daaddbb158c2c6e47ad3ba85b13ad5fb12", func := "wainwright/wainwrightlaw02.SlabStops", spec := "slabStops", inPlace := ["internal/abi.NoEscape", "internal/bytealg.MakeNoZero"], unfollowed := true, recurses := true, apart := false, narrowed := true }
def SlabStopsUptoSaid : Prop := slabStopsUptoRow.holds Try.pinned (OpenSpec.upto slabStopsSpec)

/-- 'wainwrightlaw02.SlabNil', WHERE WHAT IT READS IS OF BULK AT MOST 1048576: true; the input reads as it did. -/
def slabNilUptoRow : OpenClaim := { program := "ytejeollidbbknaa", sum := "e07bdbaf6d3a8d2f9fde0f8d72d149daaddbb158c2c6e47ad3ba85b13ad5fb12", func := "wainwright/wainwrightlaw02.SlabNil", spec := "slabNil", inPlace := ["internal/abi.NoEscape", "internal/bytealg.MakeNoZero"], unfollowed := true, recurses := true, apart := false, narrowed := true }
def SlabNilUptoSaid : Prop := slabNilUptoRow.holds Try.pinned (OpenSpec.upto slabNilSpec)

/-- 'wainwrightlaw02.SlabKeeps', WHERE WHAT IT READS IS OF BULK AT MOST 1048576: true; the input reads as it did. -/
def slabKeepsUptoRow : OpenClaim := { program := "ytejeollidbbknaa", sum := "e07bdbaf6d3a8d2f9fde0f8d72d149daaddbb158c2c6e47ad3ba85b13ad5fb12", func := "wainwright/wainwrightlaw02.SlabKeeps", spec := "slabKeeps", inPlace := ["internal/abi.NoEscape", "internal/bytealg.MakeNoZero"], unfollowed := true, recurses := true, apart := false, narrowed := true }
def SlabKeepsUptoSaid : Prop := slabKeepsUptoRow.holds Try.pinned (OpenSpec.upto slabKeepsSpec)

end Rows
end Go.Proofs.Ytejeollidbbknaa
