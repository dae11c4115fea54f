/- PROVED HERE: for every input whose reading is of bulk at most 1048576, wainwright/wainwrightlaw07.RollsPlay returns true, and each argument reads afterwards as it read before. Conditions: those of the given row, no other. (Printed by row2.py, own work, after the worked text of the second form.) -/
import Derived.Test.YtnbhmifidhoblaaDoorCards
import Derived.Test.YtnbhmifidhoblaaDoorTie
import Derived.WalkKit
import Derived.ProofKit
import Derived.OpenShut
import Derived.Deep.DeepHandedRow
import Derived.Lib.LaidTab
import Derived.Test.YtnbhmifidhoblaaDoorRows
import Derived.Test.YtnbhmifidhoblaaDoorAbsLaw
import Derived.Test.YtnbhmifidhoblaaDoorLawF
namespace Go.Proofs.YtnbhmifidhoblaaDoor.Abs
open Go Go.ChangeShapes Go.WideShapes Go.ChangeAt Go.RowKit
set_option linter.unusedVariables false
set_option maxRecDepth 100000

theorem rollsPlay_own : ownKnob Tryd.prog.godebug = none := by kernel_rfl
theorem rollsPlay_laid : laidOutB Tryd.prog = true := by kernel_rfl

theorem rollsPlay_contract (H : Type) (enc : TypeId × Value → H) (W : World) (base : Nat) (args : Array Value) (ds gs : List (DataW H)) (before : List MemPlace)
    (hval : ∀ (j : Nat) t v, Tryd.f6.params[j]? = some t → args[j]? = some v → Value.okWide Tryd.prog W .any base t v)
    (hW : DataW.Whole enc Tryd.prog Tryd.f6.params.toList Rows.rollsPlaySpec.vars false W args.toList ds gs before) (hk : Rows.uptoSmall H (ds ++ gs) = true) :
    Calls Tryd.prog 6 args W fun e W' => ∃ v, e = .returned v ∧ Rows.rollsPlaySpec.post enc Tryd.prog Tryd.f6 false true false false W args v W' := by
  have hW' := hW
  obtain ⟨p, q, hA0, hV, rfl, hfz, hnd⟩ := hW
  have hA : DataW.TrodAll enc Tryd.prog W 0 (fun _ => true) true Tryd.f6.params.toList args.toList ds p := hA0
  rw [Tryd.params6] at hA hval
  obtain ⟨v0, vs0, d0, ds0, p0, q0, hargs, rfl, rfl, h0, r0⟩ := trodAll_cons hA
  obtain ⟨rfl, rfl, rfl⟩ := trodAll_nil r0
  obtain rfl : args = #[v0] := by cases args; simp_all
  obtain ⟨rfl, rfl⟩ := trodVars_none hV
  obtain ⟨x0, rd0, rp0⟩ := open_arg (n := 0) tt_ok (.sl (.st (.pair .str I))) (t := 22) (by kernel_rfl) (hval 0 22 v0 rfl rfl) h0
  have w0 := reads_wf _ _ _ rd0
  have b0 := reads_bulk _ _ _ rd0
  have hk2 : Rows.uptoBulkAll ([d0] : List (DataW H)) ≤ 1048576 := by simpa [Rows.uptoSmall] using hk
  have hsum : bulk (.sl (.st (.pair .str I))) x0 ≤ 1048576 := by
    simp only [bulkAll_cons, bulkAll_nil] at hk2 b0
    omega
  have hlaw := wainwrightlaw07_RollsPlay_row x0 w0 hsum
  have hrun : wainwrightlaw07_RollsPlay.c.F Unit [toAV (.sl (.st (.pair .str I))) x0] [] kTrue = some () := by
    rw [show wainwrightlaw07_RollsPlay.c.F = mkFun wainwrightlaw07_RollsPlay.ins wainwrightlaw07_RollsPlay.outs wainwrightlaw07_RollsPlay from rfl]
    simp only [mkFun, Spec.readIn, Spec.read, wainwrightlaw07_RollsPlay.ins, decL, lendV_self, Option.bind_some, decOs]
    show (Option.bind (wainwrightlaw07_RollsPlay x0) _) = some ()
    rw [hlaw]
    rfl
  refine (law_calls wainwrightlaw07_RollsPlay.sound.1 hrun (W := W) (vs := #[v0]) ⟨rp0, trivial⟩).mono fun e W' ⟨he, fr⟩ => ⟨_, he, ?_⟩
  exact law_post (tb := 4) rollsPlay_laid (by rw [Tryd.params6]; intro t ht; simp at ht; subst ht; exact ⟨by kernel_rfl, of_decide_eq_true (by kernel_rfl)⟩) (by kernel_rfl) (by kernel_rfl) rfl rfl rfl rfl (by simpa using hW') fr

/- What a listed variable's cells hold. -/
mutual
def cellsD : DataW Unit → List Value
  | .lit l => [match l with | .int k n => .int k n | .bool b => .bool b | .string bs => .string ⟨bs.toArray⟩ | _ => .bool false]
  | .agg ps => cellsDs ps
  | _ => []
def cellsDs : List (DataW Unit) → List Value
  | [] => []
  | d :: r => cellsD d ++ cellsDs r
end
def putLaid (h : Array Obj) : List (Nat × DataW Unit) → Array Obj
  | [] => h
  | (g, d) :: r => putLaid (h.modify g fun | .cells _ t fz => .cells (cellsD d).toArray t fz | o => o) r
/-- A world for the witness: the settled one, the listed variables as their initialisers lay them. -/
noncomputable def laidW (os : Os) : World :=
  { World.holding Tryd.prog os ⟨#[], #[], []⟩ with heap := putLaid (World.holding Tryd.prog os ⟨#[], #[], []⟩).heap [(2, Rows.laid_unicode_utf8_acceptRanges), (1, Rows.laid_unicode_utf8_first)] }
theorem rollsPlay_met (os : Os) : laidMet Tryd.prog Rows.rollsPlayUptoRow.laid ((laidW os).forCall (fun _ _ => 0) ⟨#[], #[.slice none 0 0], []⟩).memory :=
  laidMet_of_run' 8 (by kernel_rfl) (by kernel_rfl)
theorem rollsPlay_reads (os : Os) {H : Type} (enc : TypeId × Value → H) : ∃ places, DataW.whole enc Tryd.prog ((laidW os).forCall (fun _ _ => 0) ⟨#[], #[.slice none 0 0], []⟩).memory Tryd.f6.params.toList Rows.rollsPlaySpec.vars false (#[.slice none 0 0] : Array Value).toList 8 = some ([.nil], [], places) :=
  ⟨[], by kernel_rfl⟩

theorem rollsPlay_lifted (os : Os) (started : os.Started) (H : Type) (enc : TypeId × Value → H) (F : Stop.Interp) :
    ReturnsInHanded {} Tryd.checked os 6 .any ((Rows.OpenSpec.upto Rows.rollsPlaySpec).preRow enc Tryd.prog Tryd.f6 Rows.rollsPlayUptoRow.domain false Rows.rollsPlayUptoRow.laid) (((Rows.OpenSpec.upto Rows.rollsPlaySpec).at F).post enc Tryd.prog Tryd.f6 false true false false) := by
  obtain ⟨places, hx⟩ := rollsPlay_reads os enc
  refine returnsInHanded_of_row (C := Tryd.checked) (s := Rows.OpenSpec.upto Rows.rollsPlaySpec) rollsPlay_own started (by kernel_rfl) Tryd.func6
    (witness_row_at (enc := enc) (C := Tryd.checked) false (laidW os) #[.slice none 0 0] rfl (by kernel_rfl) (by kernel_rfl) (by kernel_rfl)
      (OpenSpec.preRow_of_cond 8 hx (by kernel_rfl) (fun k hk => by cases hk; kernel_rfl) (by kernel_rfl) (rollsPlay_met os))) ?_
  intro W base args ds gs before hval hW _ hk _ _ _ _
  exact rollsPlay_contract H enc W base args ds gs before hval hW (hk _ rfl)

theorem rollsPlay_over : Rows.RollsPlayUptoSaid :=
  OpenClaim.holds_of_cond 6 Tryd.f6 rfl rfl rfl rfl rfl rfl rfl ⟨rfl, rfl, rfl, rfl, rfl⟩ rfl rfl rfl rfl rfl (by kernel_rfl) Tryd.func6 (by kernel_rfl)
    (of_decide_eq_true (by kernel_rfl)) (by unfold Func.isWrapper; first | (rw [if_pos (by decide +kernel)]; kernel_rfl) | (rw [if_neg (by decide +kernel)]; exact ⟨rfl, rfl⟩))
    (fun os started H enc _ F => by rw [OpenClaim.pre_eq_preRow]; exact rollsPlay_lifted os started H enc F)

/-- No parameter wants a stand-in; the program's own looks are off: what the card asks. -/
theorem rollsPlay_plain (f : FuncId) (fn : Func) (hf : Tryd.pinned.checked.prog.funcNamed "wainwright/wainwrightlaw07.RollsPlay" = some f) (hfn : Tryd.pinned.checked.prog.funcs[f]? = some fn) :
    false = Tryd.pinned.checked.prog.looks [] ∧ ∀ (j : Nat) t, fn.params[j]? = some t → Tryd.pinned.checked.prog.wantsStandIn t = false := by
  obtain rfl : f = 6 := Option.some.inj ((show Tryd.prog.funcNamed "wainwright/wainwrightlaw07.RollsPlay" = some 6 by kernel_rfl).symm.trans hf) |>.symm
  obtain rfl : fn = Tryd.f6 := (Option.some.inj (Tryd.func6.symm.trans hfn)).symm
  refine ⟨by kernel_rfl, fun j t ht => ?_⟩
  rw [Tryd.params6] at ht
  have hm := Array.mem_of_getElem? ht
  have hall : ∀ t ∈ Tryd.f6.params, Tryd.prog.wantsStandIn t = false := by
    rw [Tryd.params6]
    intro t ht
    simp at ht
    first
      | (rcases ht with rfl; all_goals kernel_rfl)
      | (subst ht; kernel_rfl)
  rw [Tryd.params6] at hall
  exact hall t hm

theorem rollsPlay_card : Rows.RollsPlayUptoCardSaid :=
  Claim7.holds_tied_plain_at .later [] _ _ _ _ rollsPlay_over (fun _ h => by cases h) (by kernel_rfl) (fun _ h => by cases h) rollsPlayUpto_row_tie rfl ⟨rfl, rfl⟩ (by kernel_rfl) rfl rollsPlay_plain (by kernel_rfl)

end Go.Proofs.YtnbhmifidhoblaaDoor.Abs
namespace Go.Proofs.YtnbhmifidhoblaaDoor
theorem rollsPlay_upto_holds : Rows.RollsPlayUptoCardSaid :=
  Abs.rollsPlay_card
end Go.Proofs.YtnbhmifidhoblaaDoor
