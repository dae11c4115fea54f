/- PROVED HERE: for every input whose reading is of bulk at most 1048576, wainwright/wainwrightlaw02.SlabKeeps returns true, and each argument reads afterwards as it read before. Conditions: those of the given row, no other. (Printed by row2.py, own work, after the worked text of the second form.) -/
import Derived.Test.YtejeollidbbknaaRows
import Derived.Test.YtejeollidbbknaaAbsLaw
import Derived.Test.YtejeollidbbknaaLawE
namespace Go.Proofs.Ytejeollidbbknaa.Abs
open Go Go.ChangeShapes Go.WideShapes Go.ChangeAt Go.RowKit
set_option linter.unusedVariables false
set_option maxRecDepth 100000

theorem slabKeeps_own : ownKnob Try.prog.godebug = none := by kernel_rfl
theorem slabKeeps_laid : laidOutB Try.prog = true := by kernel_rfl

theorem slabKeeps_contract (H : Type) (enc : TypeId × Value → H) (W : World) (base : Nat) (args : Array Value) (ds gs : List (DataW H)) (before : List MemPlace)
    (hval : ∀ (j : Nat) t v, Try.f6.params[j]? = some t → args[j]? = some v → Value.okWide Try.prog W .any base t v)
    (hW : DataW.Whole enc Try.prog Try.f6.params.toList Rows.slabKeepsSpec.vars false W args.toList ds gs before) (hk : Rows.uptoSmall H (ds ++ gs) = true) :
    Calls Try.prog 6 args W fun e W' => ∃ v, e = .returned v ∧ Rows.slabKeepsSpec.post enc Try.prog Try.f6 false true false false W args v W' := by
  have hW' := hW
  obtain ⟨p, q, hA0, hV, rfl, hfz, hnd⟩ := hW
  have hA : DataW.TrodAll enc Try.prog W 0 (fun _ => true) true Try.f6.params.toList args.toList ds p := hA0
  rw [Try.params6] at hA hval
  obtain ⟨v0, vs0, d0, ds0, p0, q0, hargs, rfl, rfl, h0, r0⟩ := trodAll_cons hA
  obtain ⟨v1, vs1, d1, ds1, p1, q1, rfl, rfl, rfl, h1, r1⟩ := trodAll_cons r0
  obtain ⟨rfl, rfl, rfl⟩ := trodAll_nil r1
  obtain rfl : args = #[v0, v1] := by cases args; simp_all
  obtain ⟨rfl, rfl⟩ := trodVars_none hV
  obtain ⟨x0, rd0, rp0⟩ := open_arg (n := 0) tt_ok (.sl (.st (.pair I (.pair I (.pair .str (.sl .bool)))))) (t := 41) (by kernel_rfl) (hval 0 41 v0 rfl rfl) h0
  have w0 := reads_wf _ _ _ rd0
  have b0 := reads_bulk _ _ _ rd0
  obtain ⟨x1, rd1, rp1⟩ := open_arg (n := 0) tt_ok (.sl (.st (.pair I (.pair I (.pair .str (.sl .bool)))))) (t := 41) (by kernel_rfl) (hval 1 41 v1 rfl rfl) h1
  have w1 := reads_wf _ _ _ rd1
  have b1 := reads_bulk _ _ _ rd1
  have hk2 : Rows.uptoBulkAll ([d0, d1] : List (DataW H)) ≤ 1048576 := by simpa [Rows.uptoSmall] using hk
  have hsum : bulk (.sl (.st (.pair I (.pair I (.pair .str (.sl .bool)))))) x0 + bulk (.sl (.st (.pair I (.pair I (.pair .str (.sl .bool)))))) x1 ≤ 1048576 := by
    simp only [bulkAll_cons, bulkAll_nil] at hk2 b0 b1
    omega
  have hlaw := wainwrightlaw02_SlabKeeps_row x0 x1 w0 w1 hsum
  have hrun : wainwrightlaw02_SlabKeeps.c.F Unit [toAV (.sl (.st (.pair I (.pair I (.pair .str (.sl .bool)))))) x0, toAV (.sl (.st (.pair I (.pair I (.pair .str (.sl .bool)))))) x1] [] kTrue = some () := by
    rw [show wainwrightlaw02_SlabKeeps.c.F = mkFun wainwrightlaw02_SlabKeeps.ins wainwrightlaw02_SlabKeeps.outs wainwrightlaw02_SlabKeeps from rfl]
    simp only [mkFun, Spec.readIn, Spec.read, wainwrightlaw02_SlabKeeps.ins, decL, lendV_self, Option.bind_some, decOs]
    show (Option.bind (wainwrightlaw02_SlabKeeps (x0, x1)) _) = some ()
    rw [hlaw]
    rfl
  refine (law_calls wainwrightlaw02_SlabKeeps.sound.1 hrun (W := W) (vs := #[v0, v1]) ⟨rp0, rp1, trivial⟩).mono fun e W' ⟨he, fr⟩ => ⟨_, he, ?_⟩
  exact law_post (tb := 4) slabKeeps_laid (by rw [Try.params6]; intro t ht; simp at ht; first | (rcases ht with rfl | rfl <;> exact ⟨by kernel_rfl, of_decide_eq_true (by kernel_rfl)⟩) | (subst ht; exact ⟨by kernel_rfl, of_decide_eq_true (by kernel_rfl)⟩)) (by kernel_rfl) (by kernel_rfl) rfl rfl rfl rfl (by simpa using hW') fr

theorem slabKeeps_lifted (os : Os) (started : os.Started) (H : Type) (enc : TypeId × Value → H) (F : Stop.Interp) :
    ReturnsInHanded {} Try.checked os 6 .any ((Rows.OpenSpec.upto Rows.slabKeepsSpec).pre6 enc Try.prog Try.f6 Rows.slabKeepsUptoRow.domain false) (((Rows.OpenSpec.upto Rows.slabKeepsSpec).at F).post enc Try.prog Try.f6 false true false false) := by
  refine returnsInHanded_of_cond (C := Try.checked) (s := Rows.OpenSpec.upto Rows.slabKeepsSpec) (k := Rows.uptoSmall) rfl slabKeeps_own started (by kernel_rfl) Try.func6
    (OpenSpec.witness (enc := enc) (C := Try.checked) (s := Rows.OpenSpec.upto Rows.slabKeepsSpec) (k := Rows.uptoSmall) rfl false ⟨#[], #[.slice none 0 0, .slice none 0 0], []⟩ 8 (by kernel_rfl) (by kernel_rfl) (by kernel_rfl)
      (x := ([.nil, .nil], [], [])) (by kernel_rfl) rfl (by kernel_rfl)) ?_
  intro W base args ds gs before hval hW _ hk _
  exact slabKeeps_contract H enc W base args ds gs before hval hW hk

theorem slabKeeps_over : Rows.slabKeepsUptoRow.holds Try.pinned (Rows.OpenSpec.upto Rows.slabKeepsSpec) :=
  OpenClaim.holds_of_cond 6 Try.f6 rfl rfl rfl rfl rfl rfl rfl ⟨rfl, rfl, rfl, rfl, rfl⟩ rfl rfl rfl rfl rfl (by kernel_rfl) Try.func6 (by kernel_rfl)
    (of_decide_eq_true (by kernel_rfl)) (by unfold Func.isWrapper; first | (rw [if_pos (by decide +kernel)]; kernel_rfl) | (rw [if_neg (by decide +kernel)]; exact ⟨rfl, rfl⟩))
    (fun os started H enc _ F => slabKeeps_lifted os started H enc F)

end Go.Proofs.Ytejeollidbbknaa.Abs
namespace Go.Proofs.Ytejeollidbbknaa
theorem slabKeeps_upto_holds : Rows.SlabKeepsUptoSaid :=
  Abs.slabKeeps_over
end Go.Proofs.Ytejeollidbbknaa
