/- The same functions, each loop with so many rounds at most: printed by gen2.py (own work). -/
import Derived.Test.YtldmeogadmgkiaaDoorFns
import Derived.Test.YtldmeogadmgkiaaDoorAbsEval
namespace Go.Proofs.YtldmeogadmgkiaaDoor.Abs
open Go Go.Proofs
set_option maxRecDepth 100000
set_option linter.unusedVariables false

def mould_Size.l1e : (Int × List Int × Int × Int) → Option ((Int × List Int × Int × Int) ⊕ (Int ⊕ Int)) := fun (n3, t6, t7, t8) =>
  if decide (t8 < t7) = true then
    if 0 ≤ t8 ∧ t8 < (t6.length : Int) then
      if (t6.getD t8.toNat 0 == 1) = true then
        some (.inl ((IntKind.i64.wrap (n3 + (t6.getD t8.toNat 0)), t6, t7, IntKind.i64.wrap (t8 + 1))))
      else
        if (t6.getD t8.toNat 0 == 2) = true then
          some (.inl ((IntKind.i64.wrap (n3 + (t6.getD t8.toNat 0)), t6, t7, IntKind.i64.wrap (t8 + 1))))
        else
          if (t6.getD t8.toNat 0 == 4) = true then
            some (.inl ((IntKind.i64.wrap (n3 + (t6.getD t8.toNat 0)), t6, t7, IntKind.i64.wrap (t8 + 1))))
          else
            some (.inr (.inr (-1)))
    else none
  else
    some (.inr (.inl n3))

def mould_Size.e : List Int → Option (Int) := fun widths0 =>
  (iter mould_Size.l1e fuel ((0, widths0, (widths0.length : Int), 0))).bind fun d => match d with
  | .inl n3 =>
    some n3
  | .inr t2 =>
    some t2

theorem mould_Size.l1.le : ∀ s, Le (mould_Size.l1e s) (mould_Size.l1 s) := fun (n3, t6, t7, t8) => Le.ite (Le.ite (Le.ite (Le.rfl) (Le.ite (Le.rfl) (Le.ite (Le.rfl) (Le.rfl)))) (Le.rfl)) (Le.rfl)
theorem mould_Size.le : ∀ a, Le (mould_Size.e a) (mould_Size a) := fun widths0 => Le.bind (Le.loop mould_Size.l1.le) (fun d => match d with | .inl n3 => Le.rfl | .inr t2 => Le.rfl)

def mould_Write.l2e : (List Int × List Int × Int × Int × List Int × Int × Int) → Option ((List Int × List Int × Int × Int × List Int × Int × Int) ⊕ (List Int × List Int × List Int × Int × Int)) := fun (b6, widths0, v8, w9, t23, t24, t25) =>
  if decide (w9 > 0) = true then
    if roomOk (b6.length + (([IntKind.u8.wrap (v8)] : List Int)).length) 1 then
      some (.inl ((b6 ++ (([IntKind.u8.wrap (v8)] : List Int)), widths0, Int.fdiv v8 (2 ^ 8), IntKind.i64.wrap (w9 - 1), t23, t24, t25)))
    else none
  else
    some (.inr (((b6, widths0, t23, t24, t25))))

def mould_Write.l1e : (List Int × List Int × List Int × Int × Int) → Option ((List Int × List Int × List Int × Int × Int) ⊕ ((List Int) ⊕ (List UInt8 × Int))) := fun (b6, widths0, t23, t24, t25) =>
  if decide (t25 < t24) = true then
    if 0 ≤ t25 ∧ t25 < (t23.length : Int) then
      if 0 ≤ t25 ∧ t25 < (widths0.length : Int) then
        if decide (t23.getD t25.toNat 0 < 0) = false then
          if 0 ≤ IntKind.i64.wrap (8 * (widths0.getD t25.toNat 0)) then
            if (Int.fdiv (t23.getD t25.toNat 0) (2 ^ (min (IntKind.i64.wrap (8 * (widths0.getD t25.toNat 0))).toNat 64)) != 0) = true then
              some (.inr (.inr ((([], 3)))))
            else
              (iter mould_Write.l2e fuel ((b6, widths0, t23.getD t25.toNat 0, widths0.getD t25.toNat 0, t23, t24, t25))).bind fun (b6, widths0, t23, t24, t25) =>
                some (.inl ((b6, widths0, t23, t24, IntKind.i64.wrap (t25 + 1))))
          else none
        else
          some (.inr (.inr ((([], 3)))))
      else none
    else none
  else
    some (.inr (.inl b6))

def mould_Write.e : (List Int × List Int) → Option (List UInt8 × Int) := fun (widths0, values1) =>
  (mould_Size.e widths0).bind fun r11 =>
    if decide (r11 < 0) = false then
      if ((widths0.length : Int) != (values1.length : Int)) = true then
        some ((([], 1)))
      else
        (mould_Size.e widths0).bind fun r21 =>
          if 0 ≤ (0 : Int) ∧ (0 : Int) ≤ r21 ∧ r21 * (1 : Nat) ≤ 140737488355328 ∧ r21 ≤ 9223372036854775807 then
            (iter mould_Write.l1e fuel ((List.replicate 0 (0 : Int), widths0, values1, (values1.length : Int), 0))).bind fun d => match d with
            | .inl b6 =>
              some (((b6.map fun (n : Int) => UInt8.ofNat n.toNat, 0)))
            | .inr ((t4, t5)) =>
              some (((t4, t5)))
          else none
    else
      some ((([], 1)))

theorem mould_Write.l2.le : ∀ s, Le (mould_Write.l2e s) (mould_Write.l2 s) := fun (b6, widths0, v8, w9, t23, t24, t25) => Le.ite (Le.ite (Le.rfl) (Le.rfl)) (Le.rfl)
theorem mould_Write.l1.le : ∀ s, Le (mould_Write.l1e s) (mould_Write.l1 s) := fun (b6, widths0, t23, t24, t25) => Le.ite (Le.ite (Le.ite (Le.ite (Le.ite (Le.ite (Le.rfl) (Le.bind (Le.loop mould_Write.l2.le) (fun (b6, widths0, t23, t24, t25) => Le.rfl))) (Le.rfl)) (Le.rfl)) (Le.rfl)) (Le.rfl)) (Le.rfl)
theorem mould_Write.le : ∀ a, Le (mould_Write.e a) (mould_Write a) := fun (widths0, values1) => Le.bind (mould_Size.le widths0) (fun r11 => Le.ite (Le.ite (Le.rfl) (Le.bind (mould_Size.le widths0) (fun r21 => Le.ite (Le.bind (Le.loop mould_Write.l1.le) (fun d => match d with | .inl b6 => Le.rfl | .inr ((t4, t5)) => Le.rfl)) (Le.rfl)))) (Le.rfl))

def mould_Read.l2e : (List Int × List UInt8 × Int × Int × List Int × Int × Int × List Int × Int × Int) → Option ((List Int × List UInt8 × Int × Int × List Int × Int × Int × List Int × Int × Int) ⊕ (List Int × List UInt8 × Int × List Int × Int × Int)) := fun (values7, s1, i8, w9, t25, t26, t27, t35, t36, t37) =>
  if decide (t37 < t36) = true then
    if 0 ≤ t37 ∧ t37 < (t35.length : Int) then
      if 0 ≤ i8 ∧ i8 < (values7.length : Int) then
        if 0 ≤ IntKind.i64.wrap (8 * t37) then
          if 0 ≤ i8 ∧ i8 < (values7.length : Int) then
            some (.inl ((values7.set i8.toNat (bitsOp .or .i64 (values7.getD i8.toNat 0) (IntKind.i64.wrap (IntKind.i64.wrap (t35.getD t37.toNat 0) * 2 ^ (min (IntKind.i64.wrap (8 * t37)).toNat 64)))), s1, i8, w9, t25, t26, t27, t35, t36, IntKind.i64.wrap (t37 + 1))))
          else none
        else none
      else none
    else none
  else
    some (.inr (((values7, s1, w9, t25, t26, t27))))

def mould_Read.l1e : (List Int × List UInt8 × List Int × Int × Int) → Option ((List Int × List UInt8 × List Int × Int × Int) ⊕ (List Int)) := fun (values7, s1, t25, t26, t27) =>
  if decide (t27 < t26) = true then
    if 0 ≤ t27 ∧ t27 < (t25.length : Int) then
      if 0 ≤ t25.getD t27.toNat 0 ∧ t25.getD t27.toNat 0 ≤ (s1.length : Int) then
        (iter mould_Read.l2e fuel ((values7, s1, t27, t25.getD t27.toNat 0, t25, t26, t27, (s1.take (t25.getD t27.toNat 0).toNat).map fun b => (b.toNat : Int), (((s1.take (t25.getD t27.toNat 0).toNat).map fun b => (b.toNat : Int)).length : Int), 0))).bind fun (values7, s1, w9, t25, t26, t27) =>
          if 0 ≤ w9 ∧ w9 ≤ (s1.length : Int) then
            some (.inl ((values7, s1.drop w9.toNat, t25, t26, IntKind.i64.wrap (t27 + 1))))
          else none
      else none
    else none
  else
    some (.inr values7)

def mould_Read.e : (List Int × List UInt8) → Option (List Int × Int) := fun (widths0, s1) =>
  (mould_Size.e widths0).bind fun r13 =>
    if decide (r13 < 0) = true then
      some (((([] : List Int), 1)))
    else
      if decide ((s1.length : Int) < r13) = true then
        some (((([] : List Int), 2)))
      else
        if 0 ≤ (widths0.length : Int) ∧ (widths0.length : Int) ≤ (widths0.length : Int) ∧ (widths0.length : Int) * (8 : Nat) ≤ 140737488355328 ∧ (widths0.length : Int) ≤ 9223372036854775807 then
          (iter mould_Read.l1e fuel ((List.replicate ((widths0.length : Int)).toNat (0 : Int), s1, widths0, (widths0.length : Int), 0))).bind fun values7 =>
            some (((values7, 0)))
        else none

theorem mould_Read.l2.le : ∀ s, Le (mould_Read.l2e s) (mould_Read.l2 s) := fun (values7, s1, i8, w9, t25, t26, t27, t35, t36, t37) => Le.ite (Le.ite (Le.ite (Le.ite (Le.ite (Le.rfl) (Le.rfl)) (Le.rfl)) (Le.rfl)) (Le.rfl)) (Le.rfl)
theorem mould_Read.l1.le : ∀ s, Le (mould_Read.l1e s) (mould_Read.l1 s) := fun (values7, s1, t25, t26, t27) => Le.ite (Le.ite (Le.ite (Le.bind (Le.loop mould_Read.l2.le) (fun (values7, s1, w9, t25, t26, t27) => Le.ite (Le.rfl) (Le.rfl))) (Le.rfl)) (Le.rfl)) (Le.rfl)
theorem mould_Read.le : ∀ a, Le (mould_Read.e a) (mould_Read a) := fun (widths0, s1) => Le.bind (mould_Size.le widths0) (fun r13 => Le.ite (Le.rfl) (Le.ite (Le.rfl) (Le.ite (Le.bind (Le.loop mould_Read.l1.le) (fun values7 => Le.rfl)) (Le.rfl))))

def wainwrightlaw01_lives.e : Unit → Option (Bool) := fun _ =>
  (mould_Write.e (([1, 2] : List Int), ([5, 258] : List Int))).bind fun (r8, r8_2) =>
    (mould_Read.e (([1, 2] : List Int), ([5, 2, 1] : List UInt8))).bind fun (r13, r13_2) =>
      if (r8_2 == 0) = true then
        if (r8 == (([5, 2, 1] : List UInt8))) = true then
          if (r13_2 == 0) = true then
            if ((r13.length : Int) == 2) = true then
              if 0 ≤ (1 : Int) ∧ (1 : Int) < (r13.length : Int) then
                if (r13.getD 1 0 == 258) = true then
                  (mould_Size.e ([4, 1] : List Int)).bind fun r39 =>
                    some (((r39 == 5)))
                else
                  some false
              else none
            else
              some false
          else
            some false
        else
          some false
      else
        some false

theorem wainwrightlaw01_lives.le : ∀ a, Le (wainwrightlaw01_lives.e a) (wainwrightlaw01_lives a) := fun _ => Le.bind (mould_Write.le (([1, 2] : List Int), ([5, 258] : List Int))) (fun (r8, r8_2) => Le.bind (mould_Read.le (([1, 2] : List Int), ([5, 2, 1] : List UInt8))) (fun (r13, r13_2) => Le.ite (Le.ite (Le.ite (Le.ite (Le.ite (Le.ite (Le.bind (mould_Size.le ([4, 1] : List Int)) (fun r39 => Le.rfl)) (Le.rfl)) (Le.rfl)) (Le.rfl)) (Le.rfl)) (Le.rfl)) (Le.rfl)))

end Go.Proofs.YtldmeogadmgkiaaDoor.Abs
