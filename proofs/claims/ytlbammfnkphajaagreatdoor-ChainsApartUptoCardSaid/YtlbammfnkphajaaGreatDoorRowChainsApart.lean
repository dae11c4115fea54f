/- PROVED HERE: for every input whose reading is of bulk at most 1048576, wainwright/wainwrightlaw14.ChainsApart returns true, and each argument reads afterwards as it read before. Conditions: those of the given row, no other. (Printed by row2.py, own work, after the worked text of the second form.) -/
import Derived.Test.YtlbammfnkphajaaGreatDoorCards
import Derived.Test.YtlbammfnkphajaaGreatDoorTie
import Derived.WalkKit
import Derived.ProofKit
import Derived.OpenShut
import Derived.Deep.DeepHandedRow
import Derived.Lib.LaidTab
import Derived.Test.YtlbammfnkphajaaGreatDoorClosed
import Derived.Test.YtlbammfnkphajaaGreatDoorRows
import Derived.Test.YtlbammfnkphajaaGreatDoorAbsLaw
import Derived.Test.YtlbammfnkphajaaGreatDoorChJ
namespace Go.Proofs.YtlbammfnkphajaaGreatDoor.Abs
open Go Go.ChangeShapes Go.WideShapes Go.ChangeAt Go.RowKit
set_option linter.unusedVariables false
set_option maxRecDepth 100000

theorem chainsApart_own : ownKnob Tryz.prog.godebug = none := by kernel_rfl
theorem chainsApart_laid : laidOutB Tryz.prog = true := by kernel_rfl

theorem chainsApart_contract (H : Type) (enc : TypeId × Value → H) (W : World) (base : Nat) (args : Array Value) (ds gs : List (DataW H)) (before : List MemPlace)
    (hval : ∀ (j : Nat) t v, Tryz.f6.params[j]? = some t → args[j]? = some v → Value.okWide Tryz.prog W .any base t v)
    (hW : DataW.Whole enc Tryz.prog Tryz.f6.params.toList Rows.chainsApartSpec.vars false W args.toList ds gs before) (hk : Rows.uptoSmall H (ds ++ gs) = true) :
    Calls Tryz.prog 6 args W fun e W' => ∃ v, e = .returned v ∧ Rows.chainsApartSpec.post enc Tryz.prog Tryz.f6 false true false false W args v W' := by
  have hW' := hW
  obtain ⟨p, q, hA0, hV, rfl, hfz, hnd⟩ := hW
  have hA : DataW.TrodAll enc Tryz.prog W 0 (fun _ => true) true Tryz.f6.params.toList args.toList ds p := hA0
  rw [Tryz.params6] at hA hval
  obtain ⟨v0, vs0, d0, ds0, p0, q0, hargs, rfl, rfl, h0, r0⟩ := trodAll_cons hA
  obtain ⟨v1, vs1, d1, ds1, p1, q1, rfl, rfl, rfl, h1, r1⟩ := trodAll_cons r0
  obtain ⟨rfl, rfl, rfl⟩ := trodAll_nil r1
  obtain rfl : args = #[v0, v1] := by cases args; simp_all
  obtain ⟨rfl, rfl⟩ := trodVars_none hV
  obtain ⟨x0, rd0, rp0⟩ := open_arg (n := 0) tt_ok (.sl (.sl I)) (t := 22) (by kernel_rfl) (hval 0 22 v0 rfl rfl) h0
  have w0 := reads_wf _ _ _ rd0
  have b0 := reads_bulk _ _ _ rd0
  obtain ⟨x1, rd1, rp1⟩ := open_arg (n := 0) tt_ok (.sl (.sl I)) (t := 22) (by kernel_rfl) (hval 1 22 v1 rfl rfl) h1
  have w1 := reads_wf _ _ _ rd1
  have b1 := reads_bulk _ _ _ rd1
  have hk2 : Rows.uptoBulkAll ([d0, d1] : List (DataW H)) ≤ 1048576 := by simpa [Rows.uptoSmall] using hk
  have hsum : bulk (.sl (.sl I)) x0 + bulk (.sl (.sl I)) x1 ≤ 1048576 := by
    simp only [bulkAll_cons, bulkAll_nil] at hk2 b0 b1
    omega
  have hlaw := lw14_ChainsApart_row x0 x1 w0 w1 hsum
  have hrun : lw14_ChainsApart.c.F Unit [toAV (.sl (.sl I)) x0, toAV (.sl (.sl I)) x1] [] kTrue = some () := by
    rw [show lw14_ChainsApart.c.F = mkFun lw14_ChainsApart.ins lw14_ChainsApart.outs lw14_ChainsApart from rfl]
    simp only [mkFun, Spec.readIn, Spec.read, lw14_ChainsApart.ins, decL, lendV_self, Option.bind_some, decOs]
    show (Option.bind (lw14_ChainsApart (x0, x1)) _) = some ()
    rw [hlaw]
    rfl
  refine (law_calls lw14_ChainsApart.sound.1 hrun (W := W) (vs := #[v0, v1]) ⟨rp0, rp1, trivial⟩).mono fun e W' ⟨he, fr⟩ => ⟨_, he, ?_⟩
  exact law_post (tb := 4) chainsApart_laid (by rw [Tryz.params6]; intro t ht; simp at ht; first | (rcases ht with rfl | rfl <;> exact ⟨by kernel_rfl, of_decide_eq_true (by kernel_rfl)⟩) | (subst ht; exact ⟨by kernel_rfl, of_decide_eq_true (by kernel_rfl)⟩)) (by kernel_rfl) (by kernel_rfl) rfl rfl rfl rfl (by simpa using hW') fr

/- What a listed variable's cells hold. -/
mutual
def cellsD : DataW Unit → List Value
  | .lit l => [match l with | .int k n => .int k n | .bool b => .bool b | .string bs => .string ⟨bs.toArray⟩ | _ => .bool false]
  | .agg ps => cellsDs ps
  | _ => []
def cellsDs : List (DataW Unit) → List Value
  | [] => []
  | d :: r => cellsD d ++ cellsDs r
end
def putLaid (h : Array Obj) : List (Nat × DataW Unit) → Array Obj
  | [] => h
  | (g, d) :: r => putLaid (h.modify g fun | .cells _ t fz => .cells (cellsD d).toArray t fz | o => o) r
/-- A world for the witness: the settled one, the listed variables as their initialisers lay them. -/
noncomputable def laidW (os : Os) : World :=
  { World.holding Tryz.prog os ⟨#[], #[], []⟩ with heap := putLaid (World.holding Tryz.prog os ⟨#[], #[], []⟩).heap [(2, Rows.laid_unicode_utf8_acceptRanges), (1, Rows.laid_unicode_utf8_first)] }
theorem chainsApart_met (os : Os) : laidMet Tryz.prog Rows.chainsApartUptoRow.laid ((laidW os).forCall (fun _ _ => 0) ⟨#[], #[.slice none 0 0, .slice none 0 0], []⟩).memory :=
  laidMet_of_run' 8 (by kernel_rfl) (by kernel_rfl)
theorem chainsApart_reads (os : Os) {H : Type} (enc : TypeId × Value → H) : ∃ places, DataW.whole enc Tryz.prog ((laidW os).forCall (fun _ _ => 0) ⟨#[], #[.slice none 0 0, .slice none 0 0], []⟩).memory Tryz.f6.params.toList Rows.chainsApartSpec.vars false (#[.slice none 0 0, .slice none 0 0] : Array Value).toList 8 = some ([.nil, .nil], [], places) :=
  ⟨[], by kernel_rfl⟩

theorem chainsApart_lifted (os : Os) (started : os.Started) (H : Type) (enc : TypeId × Value → H) (F : Stop.Interp) :
    ReturnsInHanded {} Tryz.checked os 6 .any ((Rows.OpenSpec.upto Rows.chainsApartSpec).preRow enc Tryz.prog Tryz.f6 Rows.chainsApartUptoRow.domain false Rows.chainsApartUptoRow.laid) (((Rows.OpenSpec.upto Rows.chainsApartSpec).at F).post enc Tryz.prog Tryz.f6 false true false false) := by
  obtain ⟨places, hx⟩ := chainsApart_reads os enc
  refine returnsInHanded_of_row (C := Tryz.checked) (s := Rows.OpenSpec.upto Rows.chainsApartSpec) chainsApart_own started (by kernel_rfl) Tryz.func6
    (witness_row_at (enc := enc) (C := Tryz.checked) false (laidW os) #[.slice none 0 0, .slice none 0 0] rfl (by kernel_rfl) (by kernel_rfl) (by kernel_rfl)
      (OpenSpec.preRow_of_cond 8 hx (by kernel_rfl) (fun k hk => by cases hk; kernel_rfl) (by kernel_rfl) (chainsApart_met os))) ?_
  intro W base args ds gs before hval hW _ hk _ _ _ _
  exact chainsApart_contract H enc W base args ds gs before hval hW (hk _ rfl)

theorem chainsApart_cl1 : Rows.chainsApartUptoRow.inPlace = Tryz.prog.inPlace 6 := by kernel_rfl
theorem chainsApart_cl2 : Rows.chainsApartUptoRow.unfollowed = Tryz.prog.unfollowed 6 := by kernel_rfl
theorem chainsApart_cl3 : Rows.chainsApartUptoRow.recurses = Tryz.prog.recurses 6 := by kernel_rfl
theorem chainsApart_cl4 : Rows.chainsApartUptoRow.named = Tryz.prog.varsNamed 6 := by kernel_rfl
theorem chainsApart_cl5 : Rows.chainsApartUptoRow.lifted = Tryz.prog.liftsFinal := by kernel_rfl
theorem chainsApart_closed : joinedFacts Tryz.prog 6 Tryz.f6 (Rows.OpenSpec.upto Rows.chainsApartSpec).bare Rows.chainsApartUptoRow = true := by
  unfold joinedFacts
  exact (band (band (band (band (band (band (band (band (band (band (band (band (band (band (band (band (band (band (band (band (band (band (band (band (band (band (band (band (band (band (band (by kernel_rfl) cl_laid) cl_maps) (by kernel_rfl)) (by kernel_rfl)) (by kernel_rfl)) (by kernel_rfl)) (by kernel_rfl)) (by kernel_rfl)) (beq_iff_eq.2 chainsApart_cl1)) (beq_iff_eq.2 chainsApart_cl2)) (beq_iff_eq.2 chainsApart_cl3)) (beq_iff_eq.2 chainsApart_cl4)) (by kernel_rfl)) (by kernel_rfl)) (by kernel_rfl)) (by kernel_rfl)) (by kernel_rfl)) (by kernel_rfl)) (by kernel_rfl)) (by kernel_rfl)) (by kernel_rfl)) (by kernel_rfl)) (by kernel_rfl)) cl_heard) cl_enter) (beq_iff_eq.2 chainsApart_cl5)) (by kernel_rfl)) (by kernel_rfl)) (by kernel_rfl)) (by kernel_rfl)) (by kernel_rfl))

theorem chainsApart_over : Rows.ChainsApartUptoSaid :=
  OpenClaim.holds_of_cond 6 Tryz.f6 rfl rfl rfl rfl rfl rfl rfl ⟨rfl, rfl, rfl, rfl, rfl⟩ rfl rfl rfl rfl rfl (by kernel_rfl) Tryz.func6 chainsApart_closed
    (of_decide_eq_true (by kernel_rfl)) (by unfold Func.isWrapper; first | (rw [if_pos (by decide +kernel)]; kernel_rfl) | (rw [if_neg (by decide +kernel)]; exact ⟨rfl, rfl⟩))
    (fun os started H enc _ F => by rw [OpenClaim.pre_eq_preRow]; exact chainsApart_lifted os started H enc F)

/-- No parameter wants a stand-in; the program's own looks are off: what the card asks. -/
theorem chainsApart_plain (f : FuncId) (fn : Func) (hf : Tryz.pinned.checked.prog.funcNamed "wainwright/wainwrightlaw14.ChainsApart" = some f) (hfn : Tryz.pinned.checked.prog.funcs[f]? = some fn) :
    false = Tryz.pinned.checked.prog.looks [] ∧ ∀ (j : Nat) t, fn.params[j]? = some t → Tryz.pinned.checked.prog.wantsStandIn t = false := by
  obtain rfl : f = 6 := Option.some.inj ((show Tryz.prog.funcNamed "wainwright/wainwrightlaw14.ChainsApart" = some 6 by kernel_rfl).symm.trans hf) |>.symm
  obtain rfl : fn = Tryz.f6 := (Option.some.inj (Tryz.func6.symm.trans hfn)).symm
  refine ⟨by kernel_rfl, fun j t ht => ?_⟩
  rw [Tryz.params6] at ht
  have hm := Array.mem_of_getElem? ht
  have hall : ∀ t ∈ Tryz.f6.params, Tryz.prog.wantsStandIn t = false := by
    rw [Tryz.params6]
    intro t ht
    simp at ht
    first
      | (rcases ht with rfl | rfl; all_goals kernel_rfl)
      | (subst ht; kernel_rfl)
  rw [Tryz.params6] at hall
  exact hall t hm

theorem chainsApart_card : Rows.ChainsApartUptoCardSaid :=
  Claim7.holds_tied_plain_at .later [] _ _ _ _ chainsApart_over (fun _ h => by cases h) (by kernel_rfl) (fun _ h => by cases h) chainsApartUpto_row_tie rfl ⟨rfl, rfl⟩ (by kernel_rfl) rfl chainsApart_plain (by kernel_rfl)

end Go.Proofs.YtlbammfnkphajaaGreatDoor.Abs
namespace Go.Proofs.YtlbammfnkphajaaGreatDoor
theorem chainsApart_upto_holds : Rows.ChainsApartUptoCardSaid :=
  Abs.chainsApart_card
end Go.Proofs.YtlbammfnkphajaaGreatDoor
