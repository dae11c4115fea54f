/- PROVED HERE: for every input whose reading is of bulk at most 1048576, wainwright/wainwrightlaw04.SpansCut returns true, and each argument reads afterwards as it read before. Conditions: those of the given row, no other. (Printed by row2.py, own work, after the worked text of the second form.) -/
import Derived.Test.YtnbhmifidhoblaaRows
import Derived.Test.YtnbhmifidhoblaaAbsLaw
import Derived.Test.YtnbhmifidhoblaaLawC
namespace Go.Proofs.Ytnbhmifidhoblaa.Abs
open Go Go.ChangeShapes Go.WideShapes Go.ChangeAt Go.RowKit
set_option linter.unusedVariables false
set_option maxRecDepth 100000

theorem spansCut_own : ownKnob Try.prog.godebug = none := by kernel_rfl
theorem spansCut_laid : laidOutB Try.prog = true := by kernel_rfl

theorem spansCut_contract (H : Type) (enc : TypeId × Value → H) (W : World) (base : Nat) (args : Array Value) (ds gs : List (DataW H)) (before : List MemPlace)
    (hval : ∀ (j : Nat) t v, Try.f5.params[j]? = some t → args[j]? = some v → Value.okWide Try.prog W .any base t v)
    (hW : DataW.Whole enc Try.prog Try.f5.params.toList Rows.spansCutSpec.vars false W args.toList ds gs before) (hk : Rows.uptoSmall H (ds ++ gs) = true) :
    Calls Try.prog 5 args W fun e W' => ∃ v, e = .returned v ∧ Rows.spansCutSpec.post enc Try.prog Try.f5 false true false false W args v W' := by
  have hW' := hW
  obtain ⟨p, q, hA0, hV, rfl, hfz, hnd⟩ := hW
  have hA : DataW.TrodAll enc Try.prog W 0 (fun _ => true) true Try.f5.params.toList args.toList ds p := hA0
  rw [Try.params5] at hA hval
  obtain ⟨v0, vs0, d0, ds0, p0, q0, hargs, rfl, rfl, h0, r0⟩ := trodAll_cons hA
  obtain ⟨v1, vs1, d1, ds1, p1, q1, rfl, rfl, rfl, h1, r1⟩ := trodAll_cons r0
  obtain ⟨v2, vs2, d2, ds2, p2, q2, rfl, rfl, rfl, h2, r2⟩ := trodAll_cons r1
  obtain ⟨rfl, rfl, rfl⟩ := trodAll_nil r2
  obtain rfl : args = #[v0, v1, v2] := by cases args; simp_all
  obtain ⟨rfl, rfl⟩ := trodVars_none hV
  obtain ⟨x0, rd0, rp0⟩ := open_arg (n := 0) tt_ok (.sl I) (t := 22) (by kernel_rfl) (hval 0 22 v0 rfl rfl) h0
  have w0 := reads_wf _ _ _ rd0
  have b0 := reads_bulk _ _ _ rd0
  obtain ⟨x1, rd1, rp1⟩ := open_arg (n := 0) tt_ok I (t := 3) (by kernel_rfl) (hval 1 3 v1 rfl rfl) h1
  have w1 := reads_wf _ _ _ rd1
  have b1 := reads_bulk _ _ _ rd1
  obtain ⟨x2, rd2, rp2⟩ := open_arg (n := 0) tt_ok I (t := 3) (by kernel_rfl) (hval 2 3 v2 rfl rfl) h2
  have w2 := reads_wf _ _ _ rd2
  have b2 := reads_bulk _ _ _ rd2
  have hk2 : Rows.uptoBulkAll ([d0, d1, d2] : List (DataW H)) ≤ 1048576 := by simpa [Rows.uptoSmall] using hk
  have hsum : bulk (.sl I) x0 + bulk I x1 + bulk I x2 ≤ 1048576 := by
    simp only [bulkAll_cons, bulkAll_nil] at hk2 b0 b1 b2
    omega
  have hlaw := wainwrightlaw04_SpansCut_row x0 x1 x2 w0 w1 w2 hsum
  have hrun : wainwrightlaw04_SpansCut.c.F Unit [toAV (.sl I) x0, toAV I x1, toAV I x2] [] kTrue = some () := by
    rw [show wainwrightlaw04_SpansCut.c.F = mkFun wainwrightlaw04_SpansCut.ins wainwrightlaw04_SpansCut.outs wainwrightlaw04_SpansCut from rfl]
    simp only [mkFun, Spec.readIn, Spec.read, wainwrightlaw04_SpansCut.ins, decL, lendV_self, Option.bind_some, decOs]
    show (Option.bind (wainwrightlaw04_SpansCut (x0, x1, x2)) _) = some ()
    rw [hlaw]
    rfl
  refine (law_calls wainwrightlaw04_SpansCut.sound.1 hrun (W := W) (vs := #[v0, v1, v2]) ⟨rp0, rp1, rp2, trivial⟩).mono fun e W' ⟨he, fr⟩ => ⟨_, he, ?_⟩
  exact law_post (tb := 4) spansCut_laid (by rw [Try.params5]; intro t ht; simp at ht; rcases ht with rfl | rfl <;> exact ⟨by kernel_rfl, of_decide_eq_true (by kernel_rfl)⟩) (by kernel_rfl) (by kernel_rfl) rfl rfl rfl rfl (by simpa using hW') fr

theorem spansCut_lifted (os : Os) (started : os.Started) (H : Type) (enc : TypeId × Value → H) (F : Stop.Interp) :
    ReturnsInHanded {} Try.checked os 5 .any ((Rows.OpenSpec.upto Rows.spansCutSpec).pre6 enc Try.prog Try.f5 Rows.spansCutUptoRow.domain false) (((Rows.OpenSpec.upto Rows.spansCutSpec).at F).post enc Try.prog Try.f5 false true false false) := by
  refine returnsInHanded_of_cond (C := Try.checked) (s := Rows.OpenSpec.upto Rows.spansCutSpec) (k := Rows.uptoSmall) rfl spansCut_own started (by kernel_rfl) Try.func5
    (OpenSpec.witness (enc := enc) (C := Try.checked) (s := Rows.OpenSpec.upto Rows.spansCutSpec) (k := Rows.uptoSmall) rfl false ⟨#[], #[.slice none 0 0, .int .i64 0, .int .i64 0], []⟩ 8 (by kernel_rfl) (by kernel_rfl) (by kernel_rfl)
      (x := ([.nil, .lit (.int .i64 0), .lit (.int .i64 0)], [], [])) (by kernel_rfl) rfl (by kernel_rfl)) ?_
  intro W base args ds gs before hval hW _ hk _
  exact spansCut_contract H enc W base args ds gs before hval hW hk

theorem spansCut_over : Rows.spansCutUptoRow.holds Try.pinned (Rows.OpenSpec.upto Rows.spansCutSpec) :=
  OpenClaim.holds_of_cond 5 Try.f5 rfl rfl rfl rfl rfl rfl rfl ⟨rfl, rfl, rfl, rfl, rfl⟩ rfl rfl rfl rfl rfl (by kernel_rfl) Try.func5 (by kernel_rfl)
    (of_decide_eq_true (by kernel_rfl)) (by unfold Func.isWrapper; first | (rw [if_pos (by decide +kernel)]; kernel_rfl) | (rw [if_neg (by decide +kernel)]; exact ⟨rfl, rfl⟩))
    (fun os started H enc _ F => spansCut_lifted os started H enc F)

end Go.Proofs.Ytnbhmifidhoblaa.Abs
namespace Go.Proofs.Ytnbhmifidhoblaa
theorem spansCut_upto_holds : Rows.SpansCutUptoSaid :=
  Abs.spansCut_over
end Go.Proofs.Ytnbhmifidhoblaa
