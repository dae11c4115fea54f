/- PROVED HERE: for every input whose reading is of bulk at most 1048576, wainwright/wainwrightlaw01.MouldTexts returns true, and each argument reads afterwards as it read before. Conditions: those of the given row, no other. (Printed by row2.py, own work, after the worked text of the second form.) -/
import Derived.Test.YtldmeogadmgkiaaDoorCards
import Derived.Test.YtldmeogadmgkiaaDoorTie
import Derived.WalkKit
import Derived.ProofKit
import Derived.OpenShut
import Derived.Deep.DeepHandedRow
import Derived.Lib.LaidTab
import Derived.Test.YtldmeogadmgkiaaDoorRows
import Derived.Test.YtldmeogadmgkiaaDoorAbsLaw
import Derived.Test.YtldmeogadmgkiaaDoorLawA
namespace Go.Proofs.YtldmeogadmgkiaaDoor.Abs
open Go Go.ChangeShapes Go.WideShapes Go.ChangeAt Go.RowKit
set_option linter.unusedVariables false
set_option maxRecDepth 100000

theorem mouldTexts_own : ownKnob Tryd.prog.godebug = none := by kernel_rfl
theorem mouldTexts_laid : laidOutB Tryd.prog = true := by kernel_rfl

theorem mouldTexts_contract (H : Type) (enc : TypeId × Value → H) (W : World) (base : Nat) (args : Array Value) (ds gs : List (DataW H)) (before : List MemPlace)
    (hval : ∀ (j : Nat) t v, Tryd.f3.params[j]? = some t → args[j]? = some v → Value.okWide Tryd.prog W .any base t v)
    (hW : DataW.Whole enc Tryd.prog Tryd.f3.params.toList Rows.mouldTextsSpec.vars false W args.toList ds gs before) (hk : Rows.uptoSmall H (ds ++ gs) = true) :
    Calls Tryd.prog 3 args W fun e W' => ∃ v, e = .returned v ∧ Rows.mouldTextsSpec.post enc Tryd.prog Tryd.f3 false true false false W args v W' := by
  have hW' := hW
  obtain ⟨p, q, hA0, hV, rfl, hfz, hnd⟩ := hW
  have hA : DataW.TrodAll enc Tryd.prog W 0 (fun _ => true) true Tryd.f3.params.toList args.toList ds p := hA0
  rw [Tryd.params3] at hA hval
  obtain ⟨v0, vs0, d0, ds0, p0, q0, hargs, rfl, rfl, h0, r0⟩ := trodAll_cons hA
  obtain ⟨v1, vs1, d1, ds1, p1, q1, rfl, rfl, rfl, h1, r1⟩ := trodAll_cons r0
  obtain ⟨v2, vs2, d2, ds2, p2, q2, rfl, rfl, rfl, h2, r2⟩ := trodAll_cons r1
  obtain ⟨rfl, rfl, rfl⟩ := trodAll_nil r2
  obtain rfl : args = #[v0, v1, v2] := by cases args; simp_all
  obtain ⟨rfl, rfl⟩ := trodVars_none hV
  obtain ⟨x0, rd0, rp0⟩ := open_arg (n := 0) tt_ok .str (t := 9) (by kernel_rfl) (hval 0 9 v0 rfl rfl) h0
  have w0 := reads_wf _ _ _ rd0
  have b0 := reads_bulk _ _ _ rd0
  obtain ⟨x1, rd1, rp1⟩ := open_arg (n := 0) tt_ok I (t := 3) (by kernel_rfl) (hval 1 3 v1 rfl rfl) h1
  have w1 := reads_wf _ _ _ rd1
  have b1 := reads_bulk _ _ _ rd1
  obtain ⟨x2, rd2, rp2⟩ := open_arg (n := 0) tt_ok .str (t := 9) (by kernel_rfl) (hval 2 9 v2 rfl rfl) h2
  have w2 := reads_wf _ _ _ rd2
  have b2 := reads_bulk _ _ _ rd2
  have hk2 : Rows.uptoBulkAll ([d0, d1, d2] : List (DataW H)) ≤ 1048576 := by simpa [Rows.uptoSmall] using hk
  have hsum : bulk .str x0 + bulk I x1 + bulk .str x2 ≤ 1048576 := by
    simp only [bulkAll_cons, bulkAll_nil] at hk2 b0 b1 b2
    omega
  have hlaw := wainwrightlaw01_MouldTexts_row x0 x1 x2 w0 w1 w2 hsum
  have hrun : wainwrightlaw01_MouldTexts.c.F Unit [toAV .str x0, toAV I x1, toAV .str x2] [] kTrue = some () := by
    rw [show wainwrightlaw01_MouldTexts.c.F = mkFun wainwrightlaw01_MouldTexts.ins wainwrightlaw01_MouldTexts.outs wainwrightlaw01_MouldTexts from rfl]
    simp only [mkFun, Spec.readIn, Spec.read, wainwrightlaw01_MouldTexts.ins, decL, lendV_self, Option.bind_some, decOs]
    show (Option.bind (wainwrightlaw01_MouldTexts (x0, x1, x2)) _) = some ()
    rw [hlaw]
    rfl
  refine (law_calls wainwrightlaw01_MouldTexts.sound.1 hrun (W := W) (vs := #[v0, v1, v2]) ⟨rp0, rp1, rp2, trivial⟩).mono fun e W' ⟨he, fr⟩ => ⟨_, he, ?_⟩
  exact law_post (tb := 4) mouldTexts_laid (by rw [Tryd.params3]; intro t ht; simp at ht; first | (rcases ht with rfl | rfl | rfl <;> exact ⟨by kernel_rfl, of_decide_eq_true (by kernel_rfl)⟩) | (rcases ht with rfl | rfl <;> exact ⟨by kernel_rfl, of_decide_eq_true (by kernel_rfl)⟩) | (subst ht; exact ⟨by kernel_rfl, of_decide_eq_true (by kernel_rfl)⟩)) (by kernel_rfl) (by kernel_rfl) rfl rfl rfl rfl (by simpa using hW') fr

/- What a listed variable's cells hold. -/
mutual
def cellsD : DataW Unit → List Value
  | .lit l => [match l with | .int k n => .int k n | .bool b => .bool b | .string bs => .string ⟨bs.toArray⟩ | _ => .bool false]
  | .agg ps => cellsDs ps
  | _ => []
def cellsDs : List (DataW Unit) → List Value
  | [] => []
  | d :: r => cellsD d ++ cellsDs r
end
def putLaid (h : Array Obj) : List (Nat × DataW Unit) → Array Obj
  | [] => h
  | (g, d) :: r => putLaid (h.modify g fun | .cells _ t fz => .cells (cellsD d).toArray t fz | o => o) r
/-- A world for the witness: the settled one, the listed variables as their initialisers lay them. -/
noncomputable def laidW (os : Os) : World :=
  { World.holding Tryd.prog os ⟨#[], #[], []⟩ with heap := putLaid (World.holding Tryd.prog os ⟨#[], #[], []⟩).heap [(2, Rows.laid_unicode_utf8_acceptRanges), (1, Rows.laid_unicode_utf8_first)] }
theorem mouldTexts_met (os : Os) : laidMet Tryd.prog Rows.mouldTextsUptoRow.laid ((laidW os).forCall (fun _ _ => 0) ⟨#[], #[.string .empty, .int .i64 0, .string .empty], []⟩).memory :=
  laidMet_of_run' 8 (by kernel_rfl) (by kernel_rfl)
theorem mouldTexts_reads (os : Os) {H : Type} (enc : TypeId × Value → H) : ∃ places, DataW.whole enc Tryd.prog ((laidW os).forCall (fun _ _ => 0) ⟨#[], #[.string .empty, .int .i64 0, .string .empty], []⟩).memory Tryd.f3.params.toList Rows.mouldTextsSpec.vars false (#[.string .empty, .int .i64 0, .string .empty] : Array Value).toList 8 = some ([.lit (.string []), .lit (.int .i64 0), .lit (.string [])], [], places) :=
  ⟨[], by kernel_rfl⟩

theorem mouldTexts_lifted (os : Os) (started : os.Started) (H : Type) (enc : TypeId × Value → H) (F : Stop.Interp) :
    ReturnsInHanded {} Tryd.checked os 3 .any ((Rows.OpenSpec.upto Rows.mouldTextsSpec).preRow enc Tryd.prog Tryd.f3 Rows.mouldTextsUptoRow.domain false Rows.mouldTextsUptoRow.laid) (((Rows.OpenSpec.upto Rows.mouldTextsSpec).at F).post enc Tryd.prog Tryd.f3 false true false false) := by
  obtain ⟨places, hx⟩ := mouldTexts_reads os enc
  refine returnsInHanded_of_row (C := Tryd.checked) (s := Rows.OpenSpec.upto Rows.mouldTextsSpec) mouldTexts_own started (by kernel_rfl) Tryd.func3
    (witness_row_at (enc := enc) (C := Tryd.checked) false (laidW os) #[.string .empty, .int .i64 0, .string .empty] rfl (by kernel_rfl) (by kernel_rfl) (by kernel_rfl)
      (OpenSpec.preRow_of_cond 8 hx (by kernel_rfl) (fun k hk => by cases hk; kernel_rfl) (by kernel_rfl) (mouldTexts_met os))) ?_
  intro W base args ds gs before hval hW _ hk _ _ _ _
  exact mouldTexts_contract H enc W base args ds gs before hval hW (hk _ rfl)

theorem mouldTexts_over : Rows.MouldTextsUptoSaid :=
  OpenClaim.holds_of_cond 3 Tryd.f3 rfl rfl rfl rfl rfl rfl rfl ⟨rfl, rfl, rfl, rfl, rfl⟩ rfl rfl rfl rfl rfl (by kernel_rfl) Tryd.func3 (by kernel_rfl)
    (of_decide_eq_true (by kernel_rfl)) (by unfold Func.isWrapper; first | (rw [if_pos (by decide +kernel)]; kernel_rfl) | (rw [if_neg (by decide +kernel)]; exact ⟨rfl, rfl⟩))
    (fun os started H enc _ F => by rw [OpenClaim.pre_eq_preRow]; exact mouldTexts_lifted os started H enc F)

/-- No parameter wants a stand-in; the program's own looks are off: what the card asks. -/
theorem mouldTexts_plain (f : FuncId) (fn : Func) (hf : Tryd.pinned.checked.prog.funcNamed "wainwright/wainwrightlaw01.MouldTexts" = some f) (hfn : Tryd.pinned.checked.prog.funcs[f]? = some fn) :
    false = Tryd.pinned.checked.prog.looks [] ∧ ∀ (j : Nat) t, fn.params[j]? = some t → Tryd.pinned.checked.prog.wantsStandIn t = false := by
  obtain rfl : f = 3 := Option.some.inj ((show Tryd.prog.funcNamed "wainwright/wainwrightlaw01.MouldTexts" = some 3 by kernel_rfl).symm.trans hf) |>.symm
  obtain rfl : fn = Tryd.f3 := (Option.some.inj (Tryd.func3.symm.trans hfn)).symm
  refine ⟨by kernel_rfl, fun j t ht => ?_⟩
  rw [Tryd.params3] at ht
  have hm := Array.mem_of_getElem? ht
  have hall : ∀ t ∈ Tryd.f3.params, Tryd.prog.wantsStandIn t = false := by
    rw [Tryd.params3]
    intro t ht
    simp at ht
    first
      | (rcases ht with rfl | rfl | rfl; all_goals kernel_rfl)
      | (rcases ht with rfl | rfl; all_goals kernel_rfl)
      | (subst ht; kernel_rfl)
  rw [Tryd.params3] at hall
  exact hall t hm

theorem mouldTexts_card : Rows.MouldTextsUptoCardSaid :=
  Claim7.holds_tied_plain_at .later [] _ _ _ _ mouldTexts_over (fun _ h => by cases h) (by kernel_rfl) (fun _ h => by cases h) mouldTextsUpto_row_tie rfl ⟨rfl, rfl⟩ (by kernel_rfl) rfl mouldTexts_plain (by kernel_rfl)

end Go.Proofs.YtldmeogadmgkiaaDoor.Abs
namespace Go.Proofs.YtldmeogadmgkiaaDoor
theorem mouldTexts_upto_holds : Rows.MouldTextsUptoCardSaid :=
  Abs.mouldTexts_card
end Go.Proofs.YtldmeogadmgkiaaDoor
