/- PROVED HERE: for every input whose reading is of bulk at most 1048576, wainwright/wainwrightlaw04.SpansBack returns true, and each argument reads afterwards as it read before. Conditions: those of the given row, no other. (Printed by row2.py, own work, after the worked text of the second form.) -/
import Derived.Test.YtnbhmifidhoblaaRows
import Derived.Test.YtnbhmifidhoblaaAbsLaw
import Derived.Test.YtnbhmifidhoblaaLawD
namespace Go.Proofs.Ytnbhmifidhoblaa.Abs
open Go Go.ChangeShapes Go.WideShapes Go.ChangeAt Go.RowKit
set_option linter.unusedVariables false
set_option maxRecDepth 100000

theorem spansBack_own : ownKnob Try.prog.godebug = none := by kernel_rfl
theorem spansBack_laid : laidOutB Try.prog = true := by kernel_rfl

theorem spansBack_contract (H : Type) (enc : TypeId × Value → H) (W : World) (base : Nat) (args : Array Value) (ds gs : List (DataW H)) (before : List MemPlace)
    (hval : ∀ (j : Nat) t v, Try.f4.params[j]? = some t → args[j]? = some v → Value.okWide Try.prog W .any base t v)
    (hW : DataW.Whole enc Try.prog Try.f4.params.toList Rows.spansBackSpec.vars false W args.toList ds gs before) (hk : Rows.uptoSmall H (ds ++ gs) = true) :
    Calls Try.prog 4 args W fun e W' => ∃ v, e = .returned v ∧ Rows.spansBackSpec.post enc Try.prog Try.f4 false true false false W args v W' := by
  have hW' := hW
  obtain ⟨p, q, hA0, hV, rfl, hfz, hnd⟩ := hW
  have hA : DataW.TrodAll enc Try.prog W 0 (fun _ => true) true Try.f4.params.toList args.toList ds p := hA0
  rw [Try.params4] at hA hval
  obtain ⟨v0, vs0, d0, ds0, p0, q0, hargs, rfl, rfl, h0, r0⟩ := trodAll_cons hA
  obtain ⟨rfl, rfl, rfl⟩ := trodAll_nil r0
  obtain rfl : args = #[v0] := by cases args; simp_all
  obtain ⟨rfl, rfl⟩ := trodVars_none hV
  obtain ⟨x0, rd0, rp0⟩ := open_arg (n := 0) tt_ok (.sl I) (t := 22) (by kernel_rfl) (hval 0 22 v0 rfl rfl) h0
  have w0 := reads_wf _ _ _ rd0
  have b0 := reads_bulk _ _ _ rd0
  have hk2 : Rows.uptoBulkAll ([d0] : List (DataW H)) ≤ 1048576 := by simpa [Rows.uptoSmall] using hk
  have hsum : bulk (.sl I) x0 ≤ 1048576 := by
    simp only [bulkAll_cons, bulkAll_nil] at hk2 b0
    omega
  have hlaw := wainwrightlaw04_SpansBack_row x0 w0 hsum
  have hrun : wainwrightlaw04_SpansBack.c.F Unit [toAV (.sl I) x0] [] kTrue = some () := by
    rw [show wainwrightlaw04_SpansBack.c.F = mkFun wainwrightlaw04_SpansBack.ins wainwrightlaw04_SpansBack.outs wainwrightlaw04_SpansBack from rfl]
    simp only [mkFun, Spec.readIn, Spec.read, wainwrightlaw04_SpansBack.ins, decL, lendV_self, Option.bind_some, decOs]
    show (Option.bind (wainwrightlaw04_SpansBack x0) _) = some ()
    rw [hlaw]
    rfl
  refine (law_calls wainwrightlaw04_SpansBack.sound.1 hrun (W := W) (vs := #[v0]) ⟨rp0, trivial⟩).mono fun e W' ⟨he, fr⟩ => ⟨_, he, ?_⟩
  exact law_post (tb := 4) spansBack_laid (by rw [Try.params4]; intro t ht; simp at ht; subst ht; exact ⟨by kernel_rfl, of_decide_eq_true (by kernel_rfl)⟩) (by kernel_rfl) (by kernel_rfl) rfl rfl rfl rfl (by simpa using hW') fr

theorem spansBack_lifted (os : Os) (started : os.Started) (H : Type) (enc : TypeId × Value → H) (F : Stop.Interp) :
    ReturnsInHanded {} Try.checked os 4 .any ((Rows.OpenSpec.upto Rows.spansBackSpec).pre6 enc Try.prog Try.f4 Rows.spansBackUptoRow.domain false) (((Rows.OpenSpec.upto Rows.spansBackSpec).at F).post enc Try.prog Try.f4 false true false false) := by
  refine returnsInHanded_of_cond (C := Try.checked) (s := Rows.OpenSpec.upto Rows.spansBackSpec) (k := Rows.uptoSmall) rfl spansBack_own started (by kernel_rfl) Try.func4
    (OpenSpec.witness (enc := enc) (C := Try.checked) (s := Rows.OpenSpec.upto Rows.spansBackSpec) (k := Rows.uptoSmall) rfl false ⟨#[], #[.slice none 0 0], []⟩ 8 (by kernel_rfl) (by kernel_rfl) (by kernel_rfl)
      (x := ([.nil], [], [])) (by kernel_rfl) rfl (by kernel_rfl)) ?_
  intro W base args ds gs before hval hW _ hk _
  exact spansBack_contract H enc W base args ds gs before hval hW hk

theorem spansBack_over : Rows.spansBackUptoRow.holds Try.pinned (Rows.OpenSpec.upto Rows.spansBackSpec) :=
  OpenClaim.holds_of_cond 4 Try.f4 rfl rfl rfl rfl rfl rfl rfl ⟨rfl, rfl, rfl, rfl, rfl⟩ rfl rfl rfl rfl rfl (by kernel_rfl) Try.func4 (by kernel_rfl)
    (of_decide_eq_true (by kernel_rfl)) (by unfold Func.isWrapper; first | (rw [if_pos (by decide +kernel)]; kernel_rfl) | (rw [if_neg (by decide +kernel)]; exact ⟨rfl, rfl⟩))
    (fun os started H enc _ F => spansBack_lifted os started H enc F)

end Go.Proofs.Ytnbhmifidhoblaa.Abs
namespace Go.Proofs.Ytnbhmifidhoblaa
theorem spansBack_upto_holds : Rows.SpansBackUptoSaid :=
  Abs.spansBack_over
end Go.Proofs.Ytnbhmifidhoblaa
