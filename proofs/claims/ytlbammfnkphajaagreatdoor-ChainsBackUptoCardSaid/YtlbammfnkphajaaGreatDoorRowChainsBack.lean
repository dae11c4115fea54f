/- PROVED HERE: for every input whose reading is of bulk at most 1048576, wainwright/wainwrightlaw14.ChainsBack returns true, and each argument reads afterwards as it read before. Conditions: those of the given row, no other. (Printed by row2.py, own work, after the worked text of the second form.) -/
import Derived.Test.YtlbammfnkphajaaGreatDoorCards
import Derived.Test.YtlbammfnkphajaaGreatDoorTie
import Derived.WalkKit
import Derived.ProofKit
import Derived.OpenShut
import Derived.Deep.DeepHandedRow
import Derived.Lib.LaidTab
import Derived.Test.YtlbammfnkphajaaGreatDoorClosed
import Derived.Test.YtlbammfnkphajaaGreatDoorRows
import Derived.Test.YtlbammfnkphajaaGreatDoorAbsLaw
import Derived.Test.YtlbammfnkphajaaGreatDoorChL
namespace Go.Proofs.YtlbammfnkphajaaGreatDoor.Abs
open Go Go.ChangeShapes Go.WideShapes Go.ChangeAt Go.RowKit
set_option linter.unusedVariables false
set_option maxRecDepth 100000

theorem chainsBack_own : ownKnob Tryz.prog.godebug = none := by kernel_rfl
theorem chainsBack_laid : laidOutB Tryz.prog = true := by kernel_rfl

theorem chainsBack_contract (H : Type) (enc : TypeId × Value → H) (W : World) (base : Nat) (args : Array Value) (ds gs : List (DataW H)) (before : List MemPlace)
    (hval : ∀ (j : Nat) t v, Tryz.f10.params[j]? = some t → args[j]? = some v → Value.okWide Tryz.prog W .any base t v)
    (hW : DataW.Whole enc Tryz.prog Tryz.f10.params.toList Rows.chainsBackSpec.vars false W args.toList ds gs before) (hk : Rows.uptoSmall H (ds ++ gs) = true) :
    Calls Tryz.prog 10 args W fun e W' => ∃ v, e = .returned v ∧ Rows.chainsBackSpec.post enc Tryz.prog Tryz.f10 false true false false W args v W' := by
  have hW' := hW
  obtain ⟨p, q, hA0, hV, rfl, hfz, hnd⟩ := hW
  have hA : DataW.TrodAll enc Tryz.prog W 0 (fun _ => true) true Tryz.f10.params.toList args.toList ds p := hA0
  rw [Tryz.params10] at hA hval
  obtain ⟨v0, vs0, d0, ds0, p0, q0, hargs, rfl, rfl, h0, r0⟩ := trodAll_cons hA
  obtain ⟨v1, vs1, d1, ds1, p1, q1, rfl, rfl, rfl, h1, r1⟩ := trodAll_cons r0
  obtain ⟨rfl, rfl, rfl⟩ := trodAll_nil r1
  obtain rfl : args = #[v0, v1] := by cases args; simp_all
  obtain ⟨rfl, rfl⟩ := trodVars_none hV
  obtain ⟨x0, rd0, rp0⟩ := open_arg (n := 0) tt_ok (.sl (.sl I)) (t := 22) (by kernel_rfl) (hval 0 22 v0 rfl rfl) h0
  have w0 := reads_wf _ _ _ rd0
  have b0 := reads_bulk _ _ _ rd0
  obtain ⟨x1, rd1, rp1⟩ := open_arg (n := 0) tt_ok I (t := 3) (by kernel_rfl) (hval 1 3 v1 rfl rfl) h1
  have w1 := reads_wf _ _ _ rd1
  have b1 := reads_bulk _ _ _ rd1
  have hk2 : Rows.uptoBulkAll ([d0, d1] : List (DataW H)) ≤ 1048576 := by simpa [Rows.uptoSmall] using hk
  have hsum : bulk (.sl (.sl I)) x0 + bulk I x1 ≤ 1048576 := by
    simp only [bulkAll_cons, bulkAll_nil] at hk2 b0 b1
    omega
  have hlaw := lw14_ChainsBack_row x0 x1 w0 w1 hsum
  have hrun : lw14_ChainsBack.c.F Unit [toAV (.sl (.sl I)) x0, toAV I x1] [] kTrue = some () := by
    rw [show lw14_ChainsBack.c.F = mkFun lw14_ChainsBack.ins lw14_ChainsBack.outs lw14_ChainsBack from rfl]
    simp only [mkFun, Spec.readIn, Spec.read, lw14_ChainsBack.ins, decL, lendV_self, Option.bind_some, decOs]
    show (Option.bind (lw14_ChainsBack (x0, x1)) _) = some ()
    rw [hlaw]
    rfl
  refine (law_calls lw14_ChainsBack.sound.1 hrun (W := W) (vs := #[v0, v1]) ⟨rp0, rp1, trivial⟩).mono fun e W' ⟨he, fr⟩ => ⟨_, he, ?_⟩
  exact law_post (tb := 4) chainsBack_laid (by rw [Tryz.params10]; intro t ht; simp at ht; first | (rcases ht with rfl | rfl <;> exact ⟨by kernel_rfl, of_decide_eq_true (by kernel_rfl)⟩) | (subst ht; exact ⟨by kernel_rfl, of_decide_eq_true (by kernel_rfl)⟩)) (by kernel_rfl) (by kernel_rfl) rfl rfl rfl rfl (by simpa using hW') fr

/- What a listed variable's cells hold. -/
mutual
def cellsD : DataW Unit → List Value
  | .lit l => [match l with | .int k n => .int k n | .bool b => .bool b | .string bs => .string ⟨bs.toArray⟩ | _ => .bool false]
  | .agg ps => cellsDs ps
  | _ => []
def cellsDs : List (DataW Unit) → List Value
  | [] => []
  | d :: r => cellsD d ++ cellsDs r
end
def putLaid (h : Array Obj) : List (Nat × DataW Unit) → Array Obj
  | [] => h
  | (g, d) :: r => putLaid (h.modify g fun | .cells _ t fz => .cells (cellsD d).toArray t fz | o => o) r
/-- A world for the witness: the settled one, the listed variables as their initialisers lay them. -/
noncomputable def laidW (os : Os) : World :=
  { World.holding Tryz.prog os ⟨#[], #[], []⟩ with heap := putLaid (World.holding Tryz.prog os ⟨#[], #[], []⟩).heap [(2, Rows.laid_unicode_utf8_acceptRanges), (1, Rows.laid_unicode_utf8_first)] }
theorem chainsBack_met (os : Os) : laidMet Tryz.prog Rows.chainsBackUptoRow.laid ((laidW os).forCall (fun _ _ => 0) ⟨#[], #[.slice none 0 0, .int .i64 0], []⟩).memory :=
  laidMet_of_run' 8 (by kernel_rfl) (by kernel_rfl)
theorem chainsBack_reads (os : Os) {H : Type} (enc : TypeId × Value → H) : ∃ places, DataW.whole enc Tryz.prog ((laidW os).forCall (fun _ _ => 0) ⟨#[], #[.slice none 0 0, .int .i64 0], []⟩).memory Tryz.f10.params.toList Rows.chainsBackSpec.vars false (#[.slice none 0 0, .int .i64 0] : Array Value).toList 8 = some ([.nil, .lit (.int .i64 0)], [], places) :=
  ⟨[], by kernel_rfl⟩

theorem chainsBack_lifted (os : Os) (started : os.Started) (H : Type) (enc : TypeId × Value → H) (F : Stop.Interp) :
    ReturnsInHanded {} Tryz.checked os 10 .any ((Rows.OpenSpec.upto Rows.chainsBackSpec).preRow enc Tryz.prog Tryz.f10 Rows.chainsBackUptoRow.domain false Rows.chainsBackUptoRow.laid) (((Rows.OpenSpec.upto Rows.chainsBackSpec).at F).post enc Tryz.prog Tryz.f10 false true false false) := by
  obtain ⟨places, hx⟩ := chainsBack_reads os enc
  refine returnsInHanded_of_row (C := Tryz.checked) (s := Rows.OpenSpec.upto Rows.chainsBackSpec) chainsBack_own started (by kernel_rfl) Tryz.func10
    (witness_row_at (enc := enc) (C := Tryz.checked) false (laidW os) #[.slice none 0 0, .int .i64 0] rfl (by kernel_rfl) (by kernel_rfl) (by kernel_rfl)
      (OpenSpec.preRow_of_cond 8 hx (by kernel_rfl) (fun k hk => by cases hk; kernel_rfl) (by kernel_rfl) (chainsBack_met os))) ?_
  intro W base args ds gs before hval hW _ hk _ _ _ _
  exact chainsBack_contract H enc W base args ds gs before hval hW (hk _ rfl)

theorem chainsBack_cl1 : Rows.chainsBackUptoRow.inPlace = Tryz.prog.inPlace 10 := by kernel_rfl
theorem chainsBack_cl2 : Rows.chainsBackUptoRow.unfollowed = Tryz.prog.unfollowed 10 := by kernel_rfl
theorem chainsBack_cl3 : Rows.chainsBackUptoRow.recurses = Tryz.prog.recurses 10 := by kernel_rfl
theorem chainsBack_cl4 : Rows.chainsBackUptoRow.named = Tryz.prog.varsNamed 10 := by kernel_rfl
theorem chainsBack_cl5 : Rows.chainsBackUptoRow.lifted = Tryz.prog.liftsFinal := by kernel_rfl
theorem chainsBack_closed : joinedFacts Tryz.prog 10 Tryz.f10 (Rows.OpenSpec.upto Rows.chainsBackSpec).bare Rows.chainsBackUptoRow = true := by
  unfold joinedFacts
  exact (band (band (band (band (band (band (band (band (band (band (band (band (band (band (band (band (band (band (band (band (band (band (band (band (band (band (band (band (band (band (band (by kernel_rfl) cl_laid) cl_maps) (by kernel_rfl)) (by kernel_rfl)) (by kernel_rfl)) (by kernel_rfl)) (by kernel_rfl)) (by kernel_rfl)) (beq_iff_eq.2 chainsBack_cl1)) (beq_iff_eq.2 chainsBack_cl2)) (beq_iff_eq.2 chainsBack_cl3)) (beq_iff_eq.2 chainsBack_cl4)) (by kernel_rfl)) (by kernel_rfl)) (by kernel_rfl)) (by kernel_rfl)) (by kernel_rfl)) (by kernel_rfl)) (by kernel_rfl)) (by kernel_rfl)) (by kernel_rfl)) (by kernel_rfl)) (by kernel_rfl)) cl_heard) cl_enter) (beq_iff_eq.2 chainsBack_cl5)) (by kernel_rfl)) (by kernel_rfl)) (by kernel_rfl)) (by kernel_rfl)) (by kernel_rfl))

theorem chainsBack_over : Rows.ChainsBackUptoSaid :=
  OpenClaim.holds_of_cond 10 Tryz.f10 rfl rfl rfl rfl rfl rfl rfl ⟨rfl, rfl, rfl, rfl, rfl⟩ rfl rfl rfl rfl rfl (by kernel_rfl) Tryz.func10 chainsBack_closed
    (of_decide_eq_true (by kernel_rfl)) (by unfold Func.isWrapper; first | (rw [if_pos (by decide +kernel)]; kernel_rfl) | (rw [if_neg (by decide +kernel)]; exact ⟨rfl, rfl⟩))
    (fun os started H enc _ F => by rw [OpenClaim.pre_eq_preRow]; exact chainsBack_lifted os started H enc F)

/-- No parameter wants a stand-in; the program's own looks are off: what the card asks. -/
theorem chainsBack_plain (f : FuncId) (fn : Func) (hf : Tryz.pinned.checked.prog.funcNamed "wainwright/wainwrightlaw14.ChainsBack" = some f) (hfn : Tryz.pinned.checked.prog.funcs[f]? = some fn) :
    false = Tryz.pinned.checked.prog.looks [] ∧ ∀ (j : Nat) t, fn.params[j]? = some t → Tryz.pinned.checked.prog.wantsStandIn t = false := by
  obtain rfl : f = 10 := Option.some.inj ((show Tryz.prog.funcNamed "wainwright/wainwrightlaw14.ChainsBack" = some 10 by kernel_rfl).symm.trans hf) |>.symm
  obtain rfl : fn = Tryz.f10 := (Option.some.inj (Tryz.func10.symm.trans hfn)).symm
  refine ⟨by kernel_rfl, fun j t ht => ?_⟩
  rw [Tryz.params10] at ht
  have hm := Array.mem_of_getElem? ht
  have hall : ∀ t ∈ Tryz.f10.params, Tryz.prog.wantsStandIn t = false := by
    rw [Tryz.params10]
    intro t ht
    simp at ht
    first
      | (rcases ht with rfl | rfl; all_goals kernel_rfl)
      | (subst ht; kernel_rfl)
  rw [Tryz.params10] at hall
  exact hall t hm

theorem chainsBack_card : Rows.ChainsBackUptoCardSaid :=
  Claim7.holds_tied_plain_at .later [] _ _ _ _ chainsBack_over (fun _ h => by cases h) (by kernel_rfl) (fun _ h => by cases h) chainsBackUpto_row_tie rfl ⟨rfl, rfl⟩ (by kernel_rfl) rfl chainsBack_plain (by kernel_rfl)

end Go.Proofs.YtlbammfnkphajaaGreatDoor.Abs
namespace Go.Proofs.YtlbammfnkphajaaGreatDoor
theorem chainsBack_upto_holds : Rows.ChainsBackUptoCardSaid :=
  Abs.chainsBack_card
end Go.Proofs.YtlbammfnkphajaaGreatDoor
