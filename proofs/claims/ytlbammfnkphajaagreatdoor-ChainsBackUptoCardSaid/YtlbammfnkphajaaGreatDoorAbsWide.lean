/- Lists and orders of operations, by which a region may be walked in a function's frame and in a round's. -/
import Derived.TacticsIn
import Derived.OrdersIn
import Derived.LoopNIn
import Derived.RangeFuncRecord
import Derived.RangeFuncCalls
import Derived.Test.YtlbammfnkphajaaGreatDoorAbsCore
namespace Go.Proofs.YtlbammfnkphajaaGreatDoor.Abs
open Go
set_option linter.unusedVariables false

/-- No fence: a function's frame; a round's. -/
def Fr : Option Nat → Fence
  | none => Fence.wide
  | some l => Fence.wide.inRound l

section
variable {P : Program} {ops : Array Oper} {Q : Exit → Act → World → Prop} {a : Act} {w : World}

theorem Fr.fn (rd : Option Nat) (f : FuncId) : (Fr rd).fn f := by cases rd <;> trivial

theorem stepsIn_Fr (rd : Option Nat) {m m' : Machine} : StepsIn (Machine.fenced P (Fr rd)) P m m' ↔ Steps P m m' := by
  cases rd <;> exact stepsIn_wide

theorem callsIn_Fr (rd : Option Nat) {n : Nat} {f : FuncId} {args : Array Value} {R : Ending → World → Prop} (h : Calls P f args w R) : CallsIn (Fr rd) n P f args w R := by
  cases rd with
  | none => exact callsIn_wide.2 h
  | some l => exact (callsIn_wide.2 h : CallsIn Fence.wide n P f args w R).inRound l

theorem wp_wpIn {rd : Option Nat} {o : Oper} {next : Act → World → Prop} (hd : ∀ c, o.op ≠ .defer c) (h : o.wp P a w next Q) : o.wpIn (Fr rd) 0 P a w next Q := by
  refine ⟨fun f _ => Fr.fn rd f, ?_⟩
  have e : o.semAt (Fr rd).round a.eval = execOp a.eval o := by
    cases rd with
    | none => exact Oper.semAt_none _ _
    | some l => exact Oper.semAt_some _ _ _ hd
  rw [e]
  unfold Oper.wp at h
  generalize (execOp a.eval o).run P w = r at h ⊢
  have hdep : (Fr rd).depth.isSome = true → 1 ≤ 0 := by cases rd <;> (intro h; cases h)
  cases r with
  | ok x w' =>
    cases x with
    | enter f args => exact ⟨hdep, callsIn_Fr rd h⟩
    | row row args => exact ⟨hdep, fun c cs _ => let ⟨v, w', r, s⟩ := h c cs; ⟨v, w', r, (stepsIn_Fr rd).2 s⟩⟩
    | round l f tmps assign body => exact h.elim
    | _ => exact h
  | halt x w' => cases x <;> exact h

/-- As 'wpList', where no operation defers and none asks for room. -/
def wpL (P : Program) (ops : Array Oper) (Q : Exit → Act → World → Prop) : List Oper → Act → World → Prop
  | [], a, w => Q .normal a w
  | o :: rest, a, w => if Region.wanted o (yielded ops a.tmps) then (∀ c, o.op ≠ .defer c) ∧ o.wp P a w (wpL P ops Q rest) Q else wpL P ops Q rest (a.put o.dst undef) w

theorem wpL_in {rd : Option Nat} : ∀ (l : List Oper) (a : Act) (w : World), wpL P ops Q l a w → wpListIn (Fr rd) 0 P ops Q l a w
  | [], _, _, h => h
  | o :: rest, a, w, h => by
    unfold wpL at h
    unfold wpListIn
    split
    · rename_i hw
      rw [if_pos hw] at h
      exact wp_wpIn h.1 (Oper.wp_mono (fun a w h => wpL_in rest a w h) h.2)
    · rename_i hw
      rw [if_neg hw] at h
      exact ⟨fun f _ => Fr.fn rd f, wpL_in rest _ _ h⟩

/-- One list behind the other. -/
theorem wpL_append {rd : Option Nat} (l2 : List Oper) : ∀ (l1 : List Oper) (a : Act) (w : World), wpL P ops (Exit.then (wpListIn (Fr rd) 0 P ops Q l2) Q) l1 a w → wpListIn (Fr rd) 0 P ops Q (l1 ++ l2) a w
  | [], _, _, h => h
  | o :: rest, a, w, h => by
    unfold wpL at h
    rw [List.cons_append]
    unfold wpListIn
    split
    · rename_i hw
      rw [if_pos hw] at h
      have h2 := Oper.wp_mono (fun a w h => wpL_append l2 rest a w h) h.2
      refine wp_wpIn h.1 ?_
      unfold Oper.wp at h2 ⊢
      generalize (execOp a.eval o).run P w = r at h2 ⊢
      cases r with
      | ok x w' =>
        cases x with
        | enter f args => exact h2.mono fun e w'' he => by cases e <;> exact he
        | _ => exact h2
      | halt x w' => cases x <;> exact h2
    · rename_i hw
      rw [if_neg hw] at h
      exact ⟨fun f _ => Fr.fn rd f, wpL_append l2 rest _ _ h⟩

def wpOpL (P : Program) (ops : Array Oper) (Q : Exit → Act → World → Prop) (i : Nat) (K : Act → World → Prop) (a : Act) (w : World) : Prop :=
  match ops[i]? with
  | none => K a w
  | some o => if Region.wanted o (yielded ops a.tmps) then (∀ c, o.op ≠ .defer c) ∧ o.wp P a w K Q else K (a.put o.dst undef) w

/-- As 'wpAny', likewise. -/
def wpAnyL (P : Program) (ops : Array Oper) (Q : Exit → Act → World → Prop) : Nat → Array Bool → Act → World → Prop
  | 0, listed, a, w => Region.ready .any ops listed = [] ∧ Q .normal a w
  | fuel + 1, listed, a, w =>
    (Region.ready .any ops listed = [] → Q .normal a w) ∧
    ∀ i ∈ Region.ready .any ops listed, wpOpL P ops Q i (wpAnyL P ops Q fuel (listed.setIfInBounds i true)) a w

theorem wpAnyL_in {rd : Option Nat} : ∀ (fuel : Nat) (listed : Array Bool) (a : Act) (w : World), wpAnyL P ops Q fuel listed a w → wpAnyIn (Fr rd) 0 P .any ops Q fuel listed a w
  | 0, _, _, _, h => h
  | fuel + 1, listed, a, w, h => by
    refine ⟨h.1, fun i hi => ?_⟩
    have h2 := h.2 i hi
    unfold wpOpL at h2
    unfold wpOpIn
    split
    · rename_i ho; rw [ho] at h2; exact wpAnyL_in fuel _ _ _ h2
    · rename_i o ho
      rw [ho] at h2
      simp only at h2
      split
      · rename_i hw
        rw [if_pos hw] at h2
        exact wp_wpIn h2.1 (Oper.wp_mono (fun a w h => wpAnyL_in fuel _ a w h) h2.2)
      · rename_i hw
        rw [if_neg hw] at h2
        exact ⟨fun f _ => Fr.fn rd f, wpAnyL_in fuel _ _ _ h2⟩

theorem wpAnyL_done {listed : Array Bool} (hr : Region.ready .any ops listed = []) (h : Q .normal a w) : ∀ fuel, wpAnyL P ops Q fuel listed a w
  | 0 => ⟨hr, h⟩
  | _ + 1 => ⟨fun _ => h, fun i hi => by rw [hr] at hi; cases hi⟩

end
end Go.Proofs.YtlbammfnkphajaaGreatDoor.Abs
