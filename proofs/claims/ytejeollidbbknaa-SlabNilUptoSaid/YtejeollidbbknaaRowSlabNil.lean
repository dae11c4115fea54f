/- PROVED HERE: for every input whose reading is of bulk at most 1048576, wainwright/wainwrightlaw02.SlabNil returns true, and each argument reads afterwards as it read before. Conditions: those of the given row, no other. (Printed by row2.py, own work, after the worked text of the second form.) -/
import Derived.Test.YtejeollidbbknaaRows
import Derived.Test.YtejeollidbbknaaAbsLaw
import Derived.Test.YtejeollidbbknaaLawA
namespace Go.Proofs.Ytejeollidbbknaa.Abs
open Go Go.ChangeShapes Go.WideShapes Go.ChangeAt Go.RowKit
set_option linter.unusedVariables false
set_option maxRecDepth 100000

theorem slabNil_own : ownKnob Try.prog.godebug = none := by kernel_rfl
theorem slabNil_laid : laidOutB Try.prog = true := by kernel_rfl

theorem slabNil_contract (H : Type) (enc : TypeId × Value → H) (W : World) (base : Nat) (args : Array Value) (ds gs : List (DataW H)) (before : List MemPlace)
    (hval : ∀ (j : Nat) t v, Try.f5.params[j]? = some t → args[j]? = some v → Value.okWide Try.prog W .any base t v)
    (hW : DataW.Whole enc Try.prog Try.f5.params.toList Rows.slabNilSpec.vars false W args.toList ds gs before) (hk : Rows.uptoSmall H (ds ++ gs) = true) :
    Calls Try.prog 5 args W fun e W' => ∃ v, e = .returned v ∧ Rows.slabNilSpec.post enc Try.prog Try.f5 false true false false W args v W' := by
  have hW' := hW
  obtain ⟨p, q, hA0, hV, rfl, hfz, hnd⟩ := hW
  have hA : DataW.TrodAll enc Try.prog W 0 (fun _ => true) true Try.f5.params.toList args.toList ds p := hA0
  rw [Try.params5] at hA hval
  obtain ⟨v0, vs0, d0, ds0, p0, q0, hargs, rfl, rfl, h0, r0⟩ := trodAll_cons hA
  obtain ⟨rfl, rfl, rfl⟩ := trodAll_nil r0
  obtain rfl : args = #[v0] := by cases args; simp_all
  obtain ⟨rfl, rfl⟩ := trodVars_none hV
  obtain ⟨x0, rd0, rp0⟩ := open_arg (n := 0) tt_ok (.st (.pair I (.pair I (.pair .str (.sl .bool))))) (t := 46) (by kernel_rfl) (hval 0 46 v0 rfl rfl) h0
  have w0 := reads_wf _ _ _ rd0
  have b0 := reads_bulk _ _ _ rd0
  have hk2 : Rows.uptoBulkAll ([d0] : List (DataW H)) ≤ 1048576 := by simpa [Rows.uptoSmall] using hk
  have hsum : bulk (.st (.pair I (.pair I (.pair .str (.sl .bool))))) x0 ≤ 1048576 := by
    simp only [bulkAll_cons, bulkAll_nil] at hk2 b0
    omega
  have hlaw := wainwrightlaw02_SlabNil_row x0 w0 hsum
  have hrun : wainwrightlaw02_SlabNil.c.F Unit [toAV (.st (.pair I (.pair I (.pair .str (.sl .bool))))) x0] [] kTrue = some () := by
    rw [show wainwrightlaw02_SlabNil.c.F = mkFun wainwrightlaw02_SlabNil.ins wainwrightlaw02_SlabNil.outs wainwrightlaw02_SlabNil from rfl]
    simp only [mkFun, Spec.readIn, Spec.read, wainwrightlaw02_SlabNil.ins, decL, lendV_self, Option.bind_some, decOs]
    show (Option.bind (wainwrightlaw02_SlabNil x0) _) = some ()
    rw [hlaw]
    rfl
  refine (law_calls wainwrightlaw02_SlabNil.sound.1 hrun (W := W) (vs := #[v0]) ⟨rp0, trivial⟩).mono fun e W' ⟨he, fr⟩ => ⟨_, he, ?_⟩
  exact law_post (tb := 4) slabNil_laid (by rw [Try.params5]; intro t ht; simp at ht; first | (subst ht; exact ⟨by kernel_rfl, of_decide_eq_true (by kernel_rfl)⟩)) (by kernel_rfl) (by kernel_rfl) rfl rfl rfl rfl (by simpa using hW') fr

theorem slabNil_lifted (os : Os) (started : os.Started) (H : Type) (enc : TypeId × Value → H) (F : Stop.Interp) :
    ReturnsInHanded {} Try.checked os 5 .any ((Rows.OpenSpec.upto Rows.slabNilSpec).pre6 enc Try.prog Try.f5 Rows.slabNilUptoRow.domain false) (((Rows.OpenSpec.upto Rows.slabNilSpec).at F).post enc Try.prog Try.f5 false true false false) := by
  refine returnsInHanded_of_cond (C := Try.checked) (s := Rows.OpenSpec.upto Rows.slabNilSpec) (k := Rows.uptoSmall) rfl slabNil_own started (by kernel_rfl) Try.func5
    (OpenSpec.witness (enc := enc) (C := Try.checked) (s := Rows.OpenSpec.upto Rows.slabNilSpec) (k := Rows.uptoSmall) rfl false ⟨#[], #[.agg #[.int .i64 0, .int .i64 0, .string .empty, .slice none 0 0]], []⟩ 8 (by kernel_rfl) (by kernel_rfl) (by kernel_rfl)
      (x := ([.agg [.lit (.int .i64 0), .lit (.int .i64 0), .lit (.string []), .nil]], [], [])) (by kernel_rfl) rfl (by kernel_rfl)) ?_
  intro W base args ds gs before hval hW _ hk _
  exact slabNil_contract H enc W base args ds gs before hval hW hk

theorem slabNil_over : Rows.slabNilUptoRow.holds Try.pinned (Rows.OpenSpec.upto Rows.slabNilSpec) :=
  OpenClaim.holds_of_cond 5 Try.f5 rfl rfl rfl rfl rfl rfl rfl ⟨rfl, rfl, rfl, rfl, rfl⟩ rfl rfl rfl rfl rfl (by kernel_rfl) Try.func5 (by kernel_rfl)
    (of_decide_eq_true (by kernel_rfl)) (by unfold Func.isWrapper; first | (rw [if_pos (by decide +kernel)]; kernel_rfl) | (rw [if_neg (by decide +kernel)]; exact ⟨rfl, rfl⟩))
    (fun os started H enc _ F => slabNil_lifted os started H enc F)

end Go.Proofs.Ytejeollidbbknaa.Abs
namespace Go.Proofs.Ytejeollidbbknaa
theorem slabNil_upto_holds : Rows.SlabNilUptoSaid :=
  Abs.slabNil_over
end Go.Proofs.Ytejeollidbbknaa
