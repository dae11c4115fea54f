/- PROVED HERE: for every input whose reading is of bulk at most 1048576, wainwright/wainwrightlaw13.StockRow returns true, and each argument reads afterwards as it read before. Conditions: those of the given row, no other. (Printed by row2.py, own work, after the worked text of the second form.) -/
import Derived.Test.YtiodpeekbeahlaaGreatDoorCards
import Derived.Test.YtiodpeekbeahlaaGreatDoorTie
import Derived.WalkKit
import Derived.ProofKit
import Derived.OpenShut
import Derived.Deep.DeepHandedRow
import Derived.Lib.LaidTab
import Derived.Test.YtiodpeekbeahlaaGreatDoorClosed
import Derived.Test.YtiodpeekbeahlaaGreatDoorRows
import Derived.Test.YtiodpeekbeahlaaGreatDoorAbsLaw
import Derived.Test.YtiodpeekbeahlaaGreatDoorStpQ
namespace Go.Proofs.YtiodpeekbeahlaaGreatDoor.Abs
open Go Go.ChangeShapes Go.WideShapes Go.ChangeAt Go.RowKit
set_option linter.unusedVariables false
set_option maxRecDepth 100000

theorem stockRow_own : ownKnob Tryz.prog.godebug = none := by kernel_rfl
theorem stockRow_laid : laidOutB Tryz.prog = true := by kernel_rfl

theorem stockRow_contract (H : Type) (enc : TypeId × Value → H) (W : World) (base : Nat) (args : Array Value) (ds gs : List (DataW H)) (before : List MemPlace)
    (hval : ∀ (j : Nat) t v, Tryz.f8.params[j]? = some t → args[j]? = some v → Value.okWide Tryz.prog W .any base t v)
    (hW : DataW.Whole enc Tryz.prog Tryz.f8.params.toList Rows.stockRowSpec.vars false W args.toList ds gs before) (hk : Rows.uptoSmall H (ds ++ gs) = true) :
    Calls Tryz.prog 8 args W fun e W' => ∃ v, e = .returned v ∧ Rows.stockRowSpec.post enc Tryz.prog Tryz.f8 false true false false W args v W' := by
  have hW' := hW
  obtain ⟨p, q, hA0, hV, rfl, hfz, hnd⟩ := hW
  have hA : DataW.TrodAll enc Tryz.prog W 0 (fun _ => true) true Tryz.f8.params.toList args.toList ds p := hA0
  rw [Tryz.params8] at hA hval
  obtain ⟨v0, vs0, d0, ds0, p0, q0, hargs, rfl, rfl, h0, r0⟩ := trodAll_cons hA
  obtain ⟨v1, vs1, d1, ds1, p1, q1, rfl, rfl, rfl, h1, r1⟩ := trodAll_cons r0
  obtain ⟨v2, vs2, d2, ds2, p2, q2, rfl, rfl, rfl, h2, r2⟩ := trodAll_cons r1
  obtain ⟨rfl, rfl, rfl⟩ := trodAll_nil r2
  obtain rfl : args = #[v0, v1, v2] := by cases args; simp_all
  obtain ⟨rfl, rfl⟩ := trodVars_none hV
  obtain ⟨x0, rd0, rp0⟩ := open_arg (n := 0) tt_ok I (t := 3) (by kernel_rfl) (hval 0 3 v0 rfl rfl) h0
  have w0 := reads_wf _ _ _ rd0
  have b0 := reads_bulk _ _ _ rd0
  obtain ⟨x1, rd1, rp1⟩ := open_arg (n := 0) tt_ok (.sl (.st (.pair I I))) (t := 56) (by kernel_rfl) (hval 1 56 v1 rfl rfl) h1
  have w1 := reads_wf _ _ _ rd1
  have b1 := reads_bulk _ _ _ rd1
  obtain ⟨x2, rd2, rp2⟩ := open_arg (n := 0) tt_ok I (t := 3) (by kernel_rfl) (hval 2 3 v2 rfl rfl) h2
  have w2 := reads_wf _ _ _ rd2
  have b2 := reads_bulk _ _ _ rd2
  have hk2 : Rows.uptoBulkAll ([d0, d1, d2] : List (DataW H)) ≤ 1048576 := by simpa [Rows.uptoSmall] using hk
  have hsum : bulk I x0 + bulk (.sl (.st (.pair I I))) x1 + bulk I x2 ≤ 1048576 := by
    simp only [bulkAll_cons, bulkAll_nil] at hk2 b0 b1 b2
    omega
  have hlaw := wainwrightlaw13_StockRow_row x0 x1 x2 w0 w1 w2 hsum
  have hrun : wainwrightlaw13_StockRow.c.F Unit [toAV I x0, toAV (.sl (.st (.pair I I))) x1, toAV I x2] [] kTrue = some () := by
    rw [show wainwrightlaw13_StockRow.c.F = mkFun wainwrightlaw13_StockRow.ins wainwrightlaw13_StockRow.outs wainwrightlaw13_StockRow from rfl]
    simp only [mkFun, Spec.readIn, Spec.read, wainwrightlaw13_StockRow.ins, decL, lendV_self, Option.bind_some, decOs]
    show (Option.bind (wainwrightlaw13_StockRow (x0, x1, x2)) _) = some ()
    rw [hlaw]
    rfl
  refine (law_calls wainwrightlaw13_StockRow.sound.1 hrun (W := W) (vs := #[v0, v1, v2]) ⟨rp0, rp1, rp2, trivial⟩).mono fun e W' ⟨he, fr⟩ => ⟨_, he, ?_⟩
  exact law_post (tb := 4) stockRow_laid (by rw [Tryz.params8]; intro t ht; simp at ht; first | (rcases ht with rfl | rfl | rfl <;> exact ⟨by kernel_rfl, of_decide_eq_true (by kernel_rfl)⟩) | (rcases ht with rfl | rfl <;> exact ⟨by kernel_rfl, of_decide_eq_true (by kernel_rfl)⟩) | (subst ht; exact ⟨by kernel_rfl, of_decide_eq_true (by kernel_rfl)⟩)) (by kernel_rfl) (by kernel_rfl) rfl rfl rfl rfl (by simpa using hW') fr

/- What a listed variable's cells hold. -/
mutual
def cellsD : DataW Unit → List Value
  | .lit l => [match l with | .int k n => .int k n | .bool b => .bool b | .string bs => .string ⟨bs.toArray⟩ | _ => .bool false]
  | .agg ps => cellsDs ps
  | _ => []
def cellsDs : List (DataW Unit) → List Value
  | [] => []
  | d :: r => cellsD d ++ cellsDs r
end
def putLaid (h : Array Obj) : List (Nat × DataW Unit) → Array Obj
  | [] => h
  | (g, d) :: r => putLaid (h.modify g fun | .cells _ t fz => .cells (cellsD d).toArray t fz | o => o) r
/-- A world for the witness: the settled one, the listed variables as their initialisers lay them. -/
noncomputable def laidW (os : Os) : World :=
  { World.holding Tryz.prog os ⟨#[], #[], []⟩ with heap := putLaid (World.holding Tryz.prog os ⟨#[], #[], []⟩).heap [(1, Rows.laid_unicode_utf8_acceptRanges), (0, Rows.laid_unicode_utf8_first)] }
theorem stockRow_met (os : Os) : laidMet Tryz.prog Rows.stockRowUptoRow.laid ((laidW os).forCall (fun _ _ => 0) ⟨#[], #[.int .i64 0, .slice none 0 0, .int .i64 0], []⟩).memory :=
  laidMet_of_run' 8 (by kernel_rfl) (by kernel_rfl)
theorem stockRow_reads (os : Os) {H : Type} (enc : TypeId × Value → H) : ∃ places, DataW.whole enc Tryz.prog ((laidW os).forCall (fun _ _ => 0) ⟨#[], #[.int .i64 0, .slice none 0 0, .int .i64 0], []⟩).memory Tryz.f8.params.toList Rows.stockRowSpec.vars false (#[.int .i64 0, .slice none 0 0, .int .i64 0] : Array Value).toList 8 = some ([.lit (.int .i64 0), .nil, .lit (.int .i64 0)], [], places) :=
  ⟨[], by kernel_rfl⟩

theorem stockRow_lifted (os : Os) (started : os.Started) (H : Type) (enc : TypeId × Value → H) (F : Stop.Interp) :
    ReturnsInHanded {} Tryz.checked os 8 .any ((Rows.OpenSpec.upto Rows.stockRowSpec).preRow enc Tryz.prog Tryz.f8 Rows.stockRowUptoRow.domain false Rows.stockRowUptoRow.laid) (((Rows.OpenSpec.upto Rows.stockRowSpec).at F).post enc Tryz.prog Tryz.f8 false true false false) := by
  obtain ⟨places, hx⟩ := stockRow_reads os enc
  refine returnsInHanded_of_row (C := Tryz.checked) (s := Rows.OpenSpec.upto Rows.stockRowSpec) stockRow_own started (by kernel_rfl) Tryz.func8
    (witness_row_at (enc := enc) (C := Tryz.checked) false (laidW os) #[.int .i64 0, .slice none 0 0, .int .i64 0] rfl (by kernel_rfl) (by kernel_rfl) (by kernel_rfl)
      (OpenSpec.preRow_of_cond 8 hx (by kernel_rfl) (fun k hk => by cases hk; kernel_rfl) (by kernel_rfl) (stockRow_met os))) ?_
  intro W base args ds gs before hval hW _ hk _ _ _ _
  exact stockRow_contract H enc W base args ds gs before hval hW (hk _ rfl)

theorem stockRow_cl1 : Rows.stockRowUptoRow.inPlace = Tryz.prog.inPlace 8 := by kernel_rfl
theorem stockRow_cl2 : Rows.stockRowUptoRow.unfollowed = Tryz.prog.unfollowed 8 := by kernel_rfl
theorem stockRow_cl3 : Rows.stockRowUptoRow.recurses = Tryz.prog.recurses 8 := by kernel_rfl
theorem stockRow_cl4 : Rows.stockRowUptoRow.named = Tryz.prog.varsNamed 8 := by kernel_rfl
theorem stockRow_cl5 : Rows.stockRowUptoRow.lifted = Tryz.prog.liftsFinal := by kernel_rfl
theorem stockRow_closed : joinedFacts Tryz.prog 8 Tryz.f8 (Rows.OpenSpec.upto Rows.stockRowSpec).bare Rows.stockRowUptoRow = true := by
  unfold joinedFacts
  exact (band (band (band (band (band (band (band (band (band (band (band (band (band (band (band (band (band (band (band (band (band (band (band (band (band (band (band (band (band (band (band (by kernel_rfl) cl_laid) cl_maps) (by kernel_rfl)) (by kernel_rfl)) (by kernel_rfl)) (by kernel_rfl)) (by kernel_rfl)) (by kernel_rfl)) (beq_iff_eq.2 stockRow_cl1)) (beq_iff_eq.2 stockRow_cl2)) (beq_iff_eq.2 stockRow_cl3)) (beq_iff_eq.2 stockRow_cl4)) (by kernel_rfl)) (by kernel_rfl)) (by kernel_rfl)) (by kernel_rfl)) (by kernel_rfl)) (by kernel_rfl)) (by kernel_rfl)) (by kernel_rfl)) (by kernel_rfl)) (by kernel_rfl)) (by kernel_rfl)) cl_heard) cl_enter) (beq_iff_eq.2 stockRow_cl5)) (by kernel_rfl)) (by kernel_rfl)) (by kernel_rfl)) (by kernel_rfl)) (by kernel_rfl))

theorem stockRow_over : Rows.StockRowUptoSaid :=
  OpenClaim.holds_of_cond 8 Tryz.f8 rfl rfl rfl rfl rfl rfl rfl ⟨rfl, rfl, rfl, rfl, rfl⟩ rfl rfl rfl rfl rfl (by kernel_rfl) Tryz.func8 stockRow_closed
    (of_decide_eq_true (by kernel_rfl)) (by unfold Func.isWrapper; first | (rw [if_pos (by decide +kernel)]; kernel_rfl) | (rw [if_neg (by decide +kernel)]; exact ⟨rfl, rfl⟩))
    (fun os started H enc _ F => by rw [OpenClaim.pre_eq_preRow]; exact stockRow_lifted os started H enc F)

/-- No parameter wants a stand-in; the program's own looks are off: what the card asks. -/
theorem stockRow_plain (f : FuncId) (fn : Func) (hf : Tryz.pinned.checked.prog.funcNamed "wainwright/wainwrightlaw13.StockRow" = some f) (hfn : Tryz.pinned.checked.prog.funcs[f]? = some fn) :
    false = Tryz.pinned.checked.prog.looks [] ∧ ∀ (j : Nat) t, fn.params[j]? = some t → Tryz.pinned.checked.prog.wantsStandIn t = false := by
  obtain rfl : f = 8 := Option.some.inj ((show Tryz.prog.funcNamed "wainwright/wainwrightlaw13.StockRow" = some 8 by kernel_rfl).symm.trans hf) |>.symm
  obtain rfl : fn = Tryz.f8 := (Option.some.inj (Tryz.func8.symm.trans hfn)).symm
  refine ⟨by kernel_rfl, fun j t ht => ?_⟩
  rw [Tryz.params8] at ht
  have hm := Array.mem_of_getElem? ht
  have hall : ∀ t ∈ Tryz.f8.params, Tryz.prog.wantsStandIn t = false := by
    rw [Tryz.params8]
    intro t ht
    simp at ht
    first
      | (rcases ht with rfl | rfl | rfl; all_goals kernel_rfl)
      | (rcases ht with rfl | rfl; all_goals kernel_rfl)
      | (subst ht; kernel_rfl)
  rw [Tryz.params8] at hall
  exact hall t hm

theorem stockRow_card : Rows.StockRowUptoCardSaid :=
  Claim7.holds_tied_plain_at .later [] _ _ _ _ stockRow_over (fun _ h => by cases h) (by kernel_rfl) (fun _ h => by cases h) stockRowUpto_row_tie rfl ⟨rfl, rfl⟩ (by kernel_rfl) rfl stockRow_plain (by kernel_rfl)

end Go.Proofs.YtiodpeekbeahlaaGreatDoor.Abs
namespace Go.Proofs.YtiodpeekbeahlaaGreatDoor
theorem stockRow_upto_holds : Rows.StockRowUptoCardSaid :=
  Abs.stockRow_card
end Go.Proofs.YtiodpeekbeahlaaGreatDoor
