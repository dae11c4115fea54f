/-
  No cell of these rows narrows 'for every input' (looked for: loops, veiled, ifaces, maps, wideKeys, modest, calm, conditions, laid).
  DERIVED. THE GIVEN ROWS OF THIS SEAT. 7 by the template 'for every input the law returns true; each argument reads behind the call as it read before'; 0 by the template 'total and deterministic' (their statements: YtldmeogadmgkiaaTotals.lean).
  GIVEN WITH THE SEED: the statements are not yours to turn. If you find one false, say at which input.
  Laid BY PROGRAM, IN A SANDBOX (cutbox-rows.mjs): the forced cells as the released guide's own fill.sh prints them over the translation 793402df10c9bce5… (all of the seat's roots in one cut). By AI agents, Wed Nov 11 2026. No macro, syntax, notation, axiom, sorry.
-/
import Derived.Test.YtldmeogadmgkiaaChecked
import GoSem.Claim
import GoSem.ClaimJoined
import GoSem.ClaimMapViews
import Derived.JoinedTies
import Derived.KernelRfl
namespace Go.Proofs.Ytldmeogadmgkiaa
/- THE CELL 'sum', in the pinned program and in every row, IS THE sha256 OF THE DUMP (.gsa) THAT YtldmeogadmgkiaaProg.lean LOADS. Nothing in Lean hashes anything: it is a label: what it is worth is what the hold of that sum in a sandbox is worth. -/
noncomputable def Try.pinned : Pinned := { name := "ytldmeogadmgkiaa", sum := "793402df10c9bce5c96876f3cf7155884ae60eb9fd2a2528e5793311777eb3c2", checked := Try.checked }
namespace Rows
def none {H : Type} : Left H := { results := [], args := [] }

/-- 'wainwrightlaw01.MouldWrites': WHATEVER THE INPUT: true; the input reads as it did. -/
def mouldWritesSpec : ChangeSpec := { name := "mouldWrites", fn := fun _ => fun
  | [d1, d2] => { results := [.lit (.bool true)], args := [d1, d2] }
  | _ => none }
def mouldWritesRow : OpenClaim := { program := "ytldmeogadmgkiaa", sum := "793402df10c9bce5c96876f3cf7155884ae60eb9fd2a2528e5793311777eb3c2", func := "wainwright/wainwrightlaw01.MouldWrites", spec := "mouldWrites", apart := false }
def MouldWritesSaid : Prop := mouldWritesRow.holds Try.pinned (OpenSpec.ofChange mouldWritesSpec)

/-- ITS FALSE NEIGHBOUR: 'it returns false'. Refute it at one input. -/
def mouldWritesWrong : ChangeSpec := { name := "mouldWrites", fn := fun _ => fun
  | [d1, d2] => { results := [.lit (.bool false)], args := [d1, d2] }
  | _ => none }
def MouldWritesWrongFalsely : Prop := mouldWritesRow.holds Try.pinned (OpenSpec.ofChange mouldWritesWrong)

/-- 'wainwrightlaw01.MouldReads': WHATEVER THE INPUT: true; the input reads as it did. -/
def mouldReadsSpec : ChangeSpec := { name := "mouldReads", fn := fun _ => fun
  | [d1, d2] => { results := [.lit (.bool true)], args := [d1, d2] }
  | _ => none }
def mouldReadsRow : OpenClaim := { program := "ytldmeogadmgkiaa", sum := "793402df10c9bce5c96876f3cf7155884ae60eb9fd2a2528e5793311777eb3c2", func := "wainwright/wainwrightlaw01.MouldReads", spec := "mouldReads", apart := false }
def MouldReadsSaid : Prop := mouldReadsRow.holds Try.pinned (OpenSpec.ofChange mouldReadsSpec)

/-- ITS FALSE NEIGHBOUR: 'it returns false'. Refute it at one input. -/
def mouldReadsWrong : ChangeSpec := { name := "mouldReads", fn := fun _ => fun
  | [d1, d2] => { results := [.lit (.bool false)], args := [d1, d2] }
  | _ => none }
def MouldReadsWrongFalsely : Prop := mouldReadsRow.holds Try.pinned (OpenSpec.ofChange mouldReadsWrong)

/-- 'wainwrightlaw01.MouldBack': WHATEVER THE INPUT: true; the input reads as it did. -/
def mouldBackSpec : ChangeSpec := { name := "mouldBack", fn := fun _ => fun
  | [d1, d2, d3] => { results := [.lit (.bool true)], args := [d1, d2, d3] }
  | _ => none }
def mouldBackRow : OpenClaim := { program := "ytldmeogadmgkiaa", sum := "793402df10c9bce5c96876f3cf7155884ae60eb9fd2a2528e5793311777eb3c2", func := "wainwright/wainwrightlaw01.MouldBack", spec := "mouldBack", apart := false }
def MouldBackSaid : Prop := mouldBackRow.holds Try.pinned (OpenSpec.ofChange mouldBackSpec)

/-- ITS FALSE NEIGHBOUR: 'it returns false'. Refute it at one input. -/
def mouldBackWrong : ChangeSpec := { name := "mouldBack", fn := fun _ => fun
  | [d1, d2, d3] => { results := [.lit (.bool false)], args := [d1, d2, d3] }
  | _ => none }
def MouldBackWrongFalsely : Prop := mouldBackRow.holds Try.pinned (OpenSpec.ofChange mouldBackWrong)

/-- 'wainwrightlaw01.MouldSplits': WHATEVER THE INPUT: true; the input reads as it did. -/
def mouldSplitsSpec : ChangeSpec := { name := "mouldSplits", fn := fun _ => fun
  | [d1, d2, d3] => { results := [.lit (.bool true)], args := [d1, d2, d3] }
  | _ => none }
def mouldSplitsRow : OpenClaim := { program := "ytldmeogadmgkiaa", sum := "793402df10c9bce5c96876f3cf7155884ae60eb9fd2a2528e5793311777eb3c2", func := "wainwright/wainwrightlaw01.MouldSplits", spec := "mouldSplits", apart := false }
def MouldSplitsSaid : Prop := mouldSplitsRow.holds Try.pinned (OpenSpec.ofChange mouldSplitsSpec)

/-- ITS FALSE NEIGHBOUR: 'it returns false'. Refute it at one input. -/
def mouldSplitsWrong : ChangeSpec := { name := "mouldSplits", fn := fun _ => fun
  | [d1, d2, d3] => { results := [.lit (.bool false)], args := [d1, d2, d3] }
  | _ => none }
def MouldSplitsWrongFalsely : Prop := mouldSplitsRow.holds Try.pinned (OpenSpec.ofChange mouldSplitsWrong)

/-- 'wainwrightlaw03.MarksBits': WHATEVER THE INPUT: true; the input reads as it did. -/
def marksBitsSpec : ChangeSpec := { name := "marksBits", fn := fun _ => fun
  | [d1, d2, d3] => { results := [.lit (.bool true)], args := [d1, d2, d3] }
  | _ => none }
def marksBitsRow : OpenClaim := { program := "ytldmeogadmgkiaa", sum := "793402df10c9bce5c96876f3cf7155884ae60eb9fd2a2528e5793311777eb3c2", func := "wainwright/wainwrightlaw03.MarksBits", spec := "marksBits", apart := false }
def MarksBitsSaid : Prop := marksBitsRow.holds Try.pinned (OpenSpec.ofChange marksBitsSpec)

/-- ITS FALSE NEIGHBOUR: 'it returns false'. Refute it at one input. -/
def marksBitsWrong : ChangeSpec := { name := "marksBits", fn := fun _ => fun
  | [d1, d2, d3] => { results := [.lit (.bool false)], args := [d1, d2, d3] }
  | _ => none }
def MarksBitsWrongFalsely : Prop := marksBitsRow.holds Try.pinned (OpenSpec.ofChange marksBitsWrong)

/-- 'wainwrightlaw03.MarksSet': WHATEVER THE INPUT: true; the input reads as it did. -/
def marksSetSpec : ChangeSpec := { name := "marksSet", fn := fun _ => fun
  | [d1, d2, d3] => { results := [.lit (.bool true)], args := [d1, d2, d3] }
  | _ => none }
def marksSetRow : OpenClaim := { program := "ytldmeogadmgkiaa", sum := "793402df10c9bce5c96876f3cf7155884ae60eb9fd2a2528e5793311777eb3c2", func := "wainwright/wainwrightlaw03.MarksSet", spec := "marksSet", apart := false }
def MarksSetSaid : Prop := marksSetRow.holds Try.pinned (OpenSpec.ofChange marksSetSpec)

/-- ITS FALSE NEIGHBOUR: 'it returns false'. Refute it at one input. -/
def marksSetWrong : ChangeSpec := { name := "marksSet", fn := fun _ => fun
  | [d1, d2, d3] => { results := [.lit (.bool false)], args := [d1, d2, d3] }
  | _ => none }
def MarksSetWrongFalsely : Prop := marksSetRow.holds Try.pinned (OpenSpec.ofChange marksSetWrong)

/-- 'wainwrightlaw03.MarksTaken': WHATEVER THE INPUT: true; the input reads as it did. -/
def marksTakenSpec : ChangeSpec := { name := "marksTaken", fn := fun _ => fun
  | [d1, d2] => { results := [.lit (.bool true)], args := [d1, d2] }
  | _ => none }
def marksTakenRow : OpenClaim := { program := "ytldmeogadmgkiaa", sum := "793402df10c9bce5c96876f3cf7155884ae60eb9fd2a2528e5793311777eb3c2", func := "wainwright/wainwrightlaw03.MarksTaken", spec := "marksTaken", apart := false }
def MarksTakenSaid : Prop := marksTakenRow.holds Try.pinned (OpenSpec.ofChange marksTakenSpec)

/-- ITS FALSE NEIGHBOUR: 'it returns false'. Refute it at one input. -/
def marksTakenWrong : ChangeSpec := { name := "marksTaken", fn := fun _ => fun
  | [d1, d2] => { results := [.lit (.bool false)], args := [d1, d2] }
  | _ => none }
def MarksTakenWrongFalsely : Prop := marksTakenRow.holds Try.pinned (OpenSpec.ofChange marksTakenWrong)

/- THE SECOND FORM. 'bulk': how many values and letters a reading holds, each counted each time it is reached (what is shared counts as often as it is met; a slice's spare places count too). A statement '..UptoSaid' is the law's where the arguments, and the package variables that the reading takes, are together of bulk at most 1048576: NARROWER than '..Said'. Prove '..Said' where nothing that the law and all that it calls make is longer than what came in: it says more and counts as full. Else prove '..UptoSaid'. A law counts once. -/
mutual
def uptoBulk {H : Type} : DataW H → Nat
  | .lit (.string bytes) => bytes.length + 1
  | .lit _ => 1
  | .nil => 1
  | .ptr d => uptoBulk d + 1
  | .slice elems spare => uptoBulkAll elems + uptoBulkAll spare + 1
  | .agg parts => uptoBulkAll parts + 1
  | .iface _ d => uptoBulk d + 1
  | .map entries => uptoBulkEntries entries + 1
  | .held _ => 1
def uptoBulkAll {H : Type} : List (DataW H) → Nat
  | [] => 0
  | d :: r => uptoBulk d + uptoBulkAll r
def uptoBulkEntries {H : Type} : List (Lit × DataW H) → Nat
  | [] => 0
  | x :: r => uptoBulkEntry x + uptoBulkEntries r
def uptoBulkEntry {H : Type} : Lit × DataW H → Nat
  | (.string bytes, d) => bytes.length + uptoBulk d + 1
  | (_, d) => uptoBulk d + 1
 end
def uptoSmall : (H : Type) → List (DataW H) → Bool := fun _ ds => decide (uptoBulkAll ds ≤ 1048576)
def OpenSpec.upto (s : _root_.Go.ChangeSpec) : _root_.Go.OpenSpec := { _root_.Go.OpenSpec.ofChange s with cond := some uptoSmall }

/-- 'wainwrightlaw01.MouldWrites', WHERE WHAT IT READS IS OF BULK AT MOST 1048576: true; the input reads as it did. -/
def mouldWritesUptoRow : OpenClaim := { program := "ytldmeogadmgkiaa", sum := "793402df10c9bce5c96876f3cf7155884ae60eb9fd2a2528e5793311777eb3c2", func := "wainwright/wainwrightlaw01.MouldWrites", spec := "mouldWrites", apart := false, narrowed := true }
def MouldWritesUptoSaid : Prop := mouldWritesUptoRow.holds Try.pinned (OpenSpec.upto mouldWritesSpec)

/-- 'wainwrightlaw01.MouldReads', WHERE WHAT IT READS IS OF BULK AT MOST 1048576: true; the input reads as it did. -/
def mouldReadsUptoRow : OpenClaim := { program := "ytldmeogadmgkiaa", sum := "793402df10c9bce5c96876f3cf7155884ae60eb9fd2a2528e5793311777eb3c2", func := "wainwright/wainwrightlaw01.MouldReads", spec := "mouldReads", apart := false, narrowed := true }
def MouldReadsUptoSaid : Prop := mouldReadsUptoRow.holds Try.pinned (OpenSpec.upto mouldReadsSpec)

/-- 'wainwrightlaw01.MouldBack', WHERE WHAT IT READS IS OF BULK AT MOST 1048576: true; the input reads as it did. -/
def mouldBackUptoRow : OpenClaim := { program := "ytldmeogadmgkiaa", sum := "793402df10c9bce5c96876f3cf7155884ae60eb9fd2a2528e5793311777eb3c2", func := "wainwright/wainwrightlaw01.MouldBack", spec := "mouldBack", apart := false, narrowed := true }
def MouldBackUptoSaid : Prop := mouldBackUptoRow.holds Try.pinned (OpenSpec.upto mouldBackSpec)

/-- 'wainwrightlaw01.MouldSplits', WHERE WHAT IT READS IS OF BULK AT MOST 1048576: true; the input reads as it did. -/
def mouldSplitsUptoRow : OpenClaim := { program := "ytldmeogadmgkiaa", sum := "793402df10c9bce5c96876f3cf7155884ae60eb9fd2a2528e5793311777eb3c2", func := "wainwright/wainwrightlaw01.MouldSplits", spec := "mouldSplits", apart := false, narrowed := true }
def MouldSplitsUptoSaid : Prop := mouldSplitsUptoRow.holds Try.pinned (OpenSpec.upto mouldSplitsSpec)

/-- 'wainwrightlaw03.MarksBits', WHERE WHAT IT READS IS OF BULK AT MOST 1048576: true; the input reads as it did. -/
def marksBitsUptoRow : OpenClaim := { program := "ytldmeogadmgkiaa", sum := "793402df10c9bce5c96876f3cf7155884ae60eb9fd2a2528e5793311777eb3c2", func := "wainwright/wainwrightlaw03.MarksBits", spec := "marksBits", apart := false, narrowed := true }
def MarksBitsUptoSaid : Prop := marksBitsUptoRow.holds Try.pinned (OpenSpec.upto marksBitsSpec)

/-- 'wainwrightlaw03.MarksSet', WHERE WHAT IT READS IS OF BULK AT MOST 1048576: true; the input reads as it did. -/
def marksSetUptoRow : OpenClaim := { program := "ytldmeogadmgkiaa", sum := "793402df10c9bce5c96876f3cf7155884ae60eb9fd2a2528e5793311777eb3c2", func := "wainwright/wainwrightlaw03.MarksSet", spec := "marksSet", apart := false, narrowed := true }
def MarksSetUptoSaid : Prop := marksSetUptoRow.holds Try.pinned (OpenSpec.upto marksSetSpec)

/-- 'wainwrightlaw03.MarksTaken', WHERE WHAT IT READS IS OF BULK AT MOST 1048576: true; the input reads as it did. -/
def marksTakenUptoRow : OpenClaim := { program := "ytldmeogadmgkiaa", sum := "793402df10c9bce5c96876f3cf7155884ae60eb9fd2a2528e5793311777eb3c2", func := "wainwright/wainwrightlaw03.MarksTaken", spec := "marksTaken", apart := false, narrowed := true }
def MarksTakenUptoSaid : Prop := marksTakenUptoRow.holds Try.pinned (OpenSpec.upto marksTakenSpec)

end Rows
end Go.Proofs.Ytldmeogadmgkiaa
