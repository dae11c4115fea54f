/- The same functions, each loop with so many rounds at most: printed by gen2.py (own work). -/
import Derived.Test.YtnbhmifidhoblaaFns
import Derived.Test.YtnbhmifidhoblaaAbsEval
namespace Go.Proofs.Ytnbhmifidhoblaa.Abs
open Go Go.Proofs
set_option maxRecDepth 100000
set_option linter.unusedVariables false

def spans_joins.e : ((Int × Int × Int) × Int × Int × Int) → Option (Bool) := fun (a0, b1) =>
  if (IntKind.i64.wrap (a0.1 + a0.2.2) == b1.1) = true then
    some (((IntKind.i64.wrap (a0.2.1 + a0.2.2) == b1.2.1)))
  else
    some false

theorem spans_joins.le : ∀ a, Le (spans_joins.e a) (spans_joins a) := fun (a0, b1) => Le.ite (Le.rfl) (Le.rfl)

def spans_add_1.e : ((List (Int × Int × Int)) × Int × Int × Int) → Option (List (Int × Int × Int)) := fun (l0, s1) =>
  ((
    if decide (IntKind.i64.wrap ((l0.length : Int) - 1) ≥ 0) = true then
      if 0 ≤ IntKind.i64.wrap ((l0.length : Int) - 1) ∧ IntKind.i64.wrap ((l0.length : Int) - 1) < (l0.length : Int) then
        (spans_joins.e (((l0.getD ((IntKind.i64.wrap ((l0.length : Int) - 1)).toNat) (0, (0, 0))).1, ((l0.getD ((IntKind.i64.wrap ((l0.length : Int) - 1)).toNat) (0, (0, 0))).2).1, ((l0.getD ((IntKind.i64.wrap ((l0.length : Int) - 1)).toNat) (0, (0, 0))).2).2), s1.1, s1.2.1, s1.2.2)).bind fun r17 =>
          some ((((l0, s1.1, s1.2.1, s1.2.2), IntKind.i64.wrap ((l0.length : Int) - 1), r17)))
      else none
    else
      some ((((l0, s1.1, s1.2.1, s1.2.2), IntKind.i64.wrap ((l0.length : Int) - 1), false)))) : Option (((List (Int × Int × Int)) × Int × Int × Int) × Int × Bool)).bind fun ((l0, s3a, s3b, s3c), n5, t18) =>
    if t18 = true then
      if 0 ≤ n5 ∧ n5 < (l0.length : Int) then
        if 0 ≤ n5 ∧ n5 < (l0.length : Int) then
          some ((l0.set n5.toNat (((l0.getD n5.toNat (0, (0, 0))).1, ((l0.getD n5.toNat (0, (0, 0))).2).1, IntKind.i64.wrap ((((l0.getD n5.toNat (0, (0, 0))).2).2) + s3c)))))
        else none
      else none
    else
      if roomOk (l0.length + (([(s3a, s3b, s3c)] : List (Int × Int × Int))).length) 24 then
        some ((l0 ++ (([(s3a, s3b, s3c)] : List (Int × Int × Int)))))
      else none

theorem spans_add_1.le : ∀ a, Le (spans_add_1.e a) (spans_add_1 a) := fun (l0, s1) => Le.bind (Le.ite (Le.ite (Le.bind (spans_joins.le (((l0.getD ((IntKind.i64.wrap ((l0.length : Int) - 1)).toNat) (0, (0, 0))).1, ((l0.getD ((IntKind.i64.wrap ((l0.length : Int) - 1)).toNat) (0, (0, 0))).2).1, ((l0.getD ((IntKind.i64.wrap ((l0.length : Int) - 1)).toNat) (0, (0, 0))).2).2), s1.1, s1.2.1, s1.2.2)) (fun r17 => Le.rfl)) (Le.rfl)) (Le.rfl)) (fun ((l0, s3a, s3b, s3c), n5, t18) => Le.ite (Le.ite (Le.ite (Le.rfl) (Le.rfl)) (Le.rfl)) (Le.ite (Le.rfl) (Le.rfl)))

def spans_Of.l1e : ((List (Int × Int × Int)) × List Int × Int × Int) → Option (((List (Int × Int × Int)) × List Int × Int × Int) ⊕ (List (Int × Int × Int))) := fun (l3, t10, t11, t12) =>
  if decide (t12 < t11) = true then
    if 0 ≤ t12 ∧ t12 < (t10.length : Int) then
      ((
        if decide (t10.getD t12.toNat 0 > 0) = true then
          some (((l3, t12, t10.getD t12.toNat 0, t10, t11, t12, decide (t10.getD t12.toNat 0 < 65536))))
        else
          some (((l3, t12, t10.getD t12.toNat 0, t10, t11, t12, false)))) : Option ((List (Int × Int × Int)) × Int × Int × List Int × Int × Int × Bool)).bind fun (l3, i4, b5, t10, t11, t12, t22) =>
        if t22 = true then
          (spans_add_1.e (l3, i4, b5, 1)).bind fun r27 =>
            some (.inl ((r27, t10, t11, IntKind.i64.wrap (t12 + 1))))
        else
          some (.inl ((l3, t10, t11, IntKind.i64.wrap (t12 + 1))))
    else none
  else
    some (.inr l3)

def spans_Of.e : List Int → Option (List (Int × Int × Int)) := fun m0 =>
  if 0 ≤ (if 65536 < (m0.length : Int) then 65536 else (m0.length : Int)) ∧ (if 65536 < (m0.length : Int) then 65536 else (m0.length : Int)) ≤ (m0.length : Int) then
    (iter spans_Of.l1e fuel (([], m0.take ((if 65536 < (m0.length : Int) then 65536 else (m0.length : Int))).toNat, ((m0.take ((if 65536 < (m0.length : Int) then 65536 else (m0.length : Int))).toNat).length : Int), 0))).bind fun l3 =>
      some l3
  else none

theorem spans_Of.l1.le : ∀ s, Le (spans_Of.l1e s) (spans_Of.l1 s) := fun (l3, t10, t11, t12) => Le.ite (Le.ite (Le.bind (Le.ite (Le.rfl) (Le.rfl)) (fun (l3, i4, b5, t10, t11, t12, t22) => Le.ite (Le.bind (spans_add_1.le (l3, i4, b5, 1)) (fun r27 => Le.rfl)) (Le.rfl))) (Le.rfl)) (Le.rfl)
theorem spans_Of.le : ∀ a, Le (spans_Of.e a) (spans_Of a) := fun m0 => Le.ite (Le.bind (Le.loop spans_Of.l1.le) (fun l3 => Le.rfl)) (Le.rfl)

def spans_odd.e : (Int × Int × Int) → Option (Bool) := fun s0 =>
  if decide (s0.1 < 0) = false then
    if decide (s0.2.1 < 1) = false then
      if decide (s0.2.2 < 1) = false then
        if decide (s0.2.2 ≥ 65536) = false then
          if decide (s0.1 > IntKind.i64.wrap (65536 - s0.2.2)) = false then
            some ((decide (s0.2.1 > IntKind.i64.wrap (65536 - s0.2.2))))
          else
            some true
        else
          some true
      else
        some true
    else
      some true
  else
    some true

theorem spans_odd.le : ∀ a, Le (spans_odd.e a) (spans_odd a) := fun s0 => Le.ite (Le.ite (Le.ite (Le.ite (Le.ite (Le.rfl) (Le.rfl)) (Le.rfl)) (Le.rfl)) (Le.rfl)) (Le.rfl)

def spans_Right.l1e : ((List (Int × Int × Int)) × (List (Int × Int × Int)) × Int × Int) → Option (((List (Int × Int × Int)) × (List (Int × Int × Int)) × Int × Int) ⊕ (Unit ⊕ Bool)) := fun (l0, t5, t6, t7) =>
  if decide (t7 < t6) = true then
    if 0 ≤ t7 ∧ t7 < (t5.length : Int) then
      (spans_odd.e ((t5.getD t7.toNat (0, (0, 0))).1, ((t5.getD t7.toNat (0, (0, 0))).2).1, ((t5.getD t7.toNat (0, (0, 0))).2).2)).bind fun r13 =>
        if r13 = false then
          if decide (t7 > 0) = true then
            if 0 ≤ IntKind.i64.wrap (t7 - 1) ∧ IntKind.i64.wrap (t7 - 1) < (l0.length : Int) then
              if 0 ≤ IntKind.i64.wrap (t7 - 1) ∧ IntKind.i64.wrap (t7 - 1) < (l0.length : Int) then
                if decide ((t5.getD t7.toNat (0, (0, 0))).1 < IntKind.i64.wrap (((l0.getD ((IntKind.i64.wrap (t7 - 1)).toNat) (0, (0, 0))).1) + (((l0.getD ((IntKind.i64.wrap (t7 - 1)).toNat) (0, (0, 0))).2).2))) = false then
                  if 0 ≤ IntKind.i64.wrap (t7 - 1) ∧ IntKind.i64.wrap (t7 - 1) < (l0.length : Int) then
                    (spans_joins.e (((l0.getD ((IntKind.i64.wrap (t7 - 1)).toNat) (0, (0, 0))).1, ((l0.getD ((IntKind.i64.wrap (t7 - 1)).toNat) (0, (0, 0))).2).1, ((l0.getD ((IntKind.i64.wrap (t7 - 1)).toNat) (0, (0, 0))).2).2), (t5.getD t7.toNat (0, (0, 0))).1, ((t5.getD t7.toNat (0, (0, 0))).2).1, ((t5.getD t7.toNat (0, (0, 0))).2).2)).bind fun r41 =>
                      if r41 = true then
                        some (.inr (.inr false))
                      else
                        some (.inl ((l0, t5, t6, IntKind.i64.wrap (t7 + 1))))
                  else none
                else
                  some (.inr (.inr false))
              else none
            else none
          else
            some (.inl ((l0, t5, t6, IntKind.i64.wrap (t7 + 1))))
        else
          some (.inr (.inr false))
    else none
  else
    some (.inr (.inl ()))

def spans_Right.e : (List (Int × Int × Int)) → Option (Bool) := fun l0 =>
  (iter spans_Right.l1e fuel ((l0, l0, (l0.length : Int), 0))).bind fun d => match d with
  | .inl _ =>
    some true
  | .inr t2 =>
    some t2

theorem spans_Right.l1.le : ∀ s, Le (spans_Right.l1e s) (spans_Right.l1 s) := fun (l0, t5, t6, t7) => Le.ite (Le.ite (Le.bind (spans_odd.le ((t5.getD t7.toNat (0, (0, 0))).1, ((t5.getD t7.toNat (0, (0, 0))).2).1, ((t5.getD t7.toNat (0, (0, 0))).2).2)) (fun r13 => Le.ite (Le.ite (Le.ite (Le.ite (Le.ite (Le.ite (Le.bind (spans_joins.le (((l0.getD ((IntKind.i64.wrap (t7 - 1)).toNat) (0, (0, 0))).1, ((l0.getD ((IntKind.i64.wrap (t7 - 1)).toNat) (0, (0, 0))).2).1, ((l0.getD ((IntKind.i64.wrap (t7 - 1)).toNat) (0, (0, 0))).2).2), (t5.getD t7.toNat (0, (0, 0))).1, ((t5.getD t7.toNat (0, (0, 0))).2).1, ((t5.getD t7.toNat (0, (0, 0))).2).2)) (fun r41 => Le.ite (Le.rfl) (Le.rfl))) (Le.rfl)) (Le.rfl)) (Le.rfl)) (Le.rfl)) (Le.rfl)) (Le.rfl))) (Le.rfl)) (Le.rfl)
theorem spans_Right.le : ∀ a, Le (spans_Right.e a) (spans_Right a) := fun l0 => Le.bind (Le.loop spans_Right.l1.le) (fun d => match d with | .inl _ => Le.rfl | .inr t2 => Le.rfl)

def spans_has.e : ((Int × Int × Int) × Int) → Option (Bool) := fun (s0, i1) =>
  if decide (s0.1 ≤ i1) = true then
    some ((decide (IntKind.u64.wrap ((IntKind.u64.wrap (i1)) - (IntKind.u64.wrap (s0.1))) < IntKind.u64.wrap ((if 0 > s0.2.2 then 0 else s0.2.2)))))
  else
    some false

theorem spans_has.le : ∀ a, Le (spans_has.e a) (spans_has a) := fun (s0, i1) => Le.ite (Le.rfl) (Le.rfl)

def spans_At.l1e : (Int × (List (Int × Int × Int)) × Int × Int) → Option ((Int × (List (Int × Int × Int)) × Int × Int) ⊕ (Unit ⊕ Int)) := fun (i1, t7, t8, t9) =>
  if decide (t9 < t8) = true then
    if 0 ≤ t9 ∧ t9 < (t7.length : Int) then
      (spans_has.e (((t7.getD t9.toNat (0, (0, 0))).1, ((t7.getD t9.toNat (0, (0, 0))).2).1, ((t7.getD t9.toNat (0, (0, 0))).2).2), i1)).bind fun r15 =>
        if r15 = true then
          some (.inr (.inr ((IntKind.i64.wrap ((((t7.getD t9.toNat (0, (0, 0))).2).1) + (IntKind.i64.wrap (i1 - ((t7.getD t9.toNat (0, (0, 0))).1))))))))
        else
          some (.inl ((i1, t7, t8, IntKind.i64.wrap (t9 + 1))))
    else none
  else
    some (.inr (.inl ()))

def spans_At.e : ((List (Int × Int × Int)) × Int) → Option (Int) := fun (l0, i1) =>
  (iter spans_At.l1e fuel ((i1, l0, (l0.length : Int), 0))).bind fun d => match d with
  | .inl _ =>
    some 0
  | .inr t4 =>
    some t4

theorem spans_At.l1.le : ∀ s, Le (spans_At.l1e s) (spans_At.l1 s) := fun (i1, t7, t8, t9) => Le.ite (Le.ite (Le.bind (spans_has.le (((t7.getD t9.toNat (0, (0, 0))).1, ((t7.getD t9.toNat (0, (0, 0))).2).1, ((t7.getD t9.toNat (0, (0, 0))).2).2), i1)) (fun r15 => Le.ite (Le.rfl) (Le.rfl))) (Le.rfl)) (Le.rfl)
theorem spans_At.le : ∀ a, Le (spans_At.e a) (spans_At a) := fun (l0, i1) => Le.bind (Le.loop spans_At.l1.le) (fun d => match d with | .inl _ => Le.rfl | .inr t4 => Le.rfl)

def bits_Len64.e : Int → Option (Int) := fun x0 =>
  ((
    if decide (x0 ≥ 4294967296) = true then
      some (((Int.fdiv x0 (2 ^ 32), 32)))
    else
      some (((x0, 0)))) : Option (Int × Int)).bind fun (x0, n2) =>
    ((
      if decide (x0 ≥ 65536) = true then
        some (((Int.fdiv x0 (2 ^ 16), IntKind.i64.wrap (n2 + 16))))
      else
        some (((x0, n2)))) : Option (Int × Int)).bind fun (x0, n2) =>
      if decide (x0 ≥ 256) = true then
        if 0 ≤ IntKind.u8.wrap (Int.fdiv x0 (2 ^ 8)) ∧ IntKind.u8.wrap (Int.fdiv x0 (2 ^ 8)) < ((([0, 1, 2, 2, 3, 3, 3, 3, 4, 4, 4, 4, 4, 4, 4, 4, 5, 5, 5, 5, 5, 5, 5, 5, 5, 5, 5, 5, 5, 5, 5, 5, 6, 6, 6, 6, 6, 6, 6, 6, 6, 6, 6, 6, 6, 6, 6, 6, 6, 6, 6, 6, 6, 6, 6, 6, 6, 6, 6, 6, 6, 6, 6, 6, 7, 7, 7, 7, 7, 7, 7, 7, 7, 7, 7, 7, 7, 7, 7, 7, 7, 7, 7, 7, 7, 7, 7, 7, 7, 7, 7, 7, 7, 7, 7, 7, 7, 7, 7, 7, 7, 7, 7, 7, 7, 7, 7, 7, 7, 7, 7, 7, 7, 7, 7, 7, 7, 7, 7, 7, 7, 7, 7, 7, 7, 7, 7, 7, 8, 8, 8, 8, 8, 8, 8, 8, 8, 8, 8, 8, 8, 8, 8, 8, 8, 8, 8, 8, 8, 8, 8, 8, 8, 8, 8, 8, 8, 8, 8, 8, 8, 8, 8, 8, 8, 8, 8, 8, 8, 8, 8, 8, 8, 8, 8, 8, 8, 8, 8, 8, 8, 8, 8, 8, 8, 8, 8, 8, 8, 8, 8, 8, 8, 8, 8, 8, 8, 8, 8, 8, 8, 8, 8, 8, 8, 8, 8, 8, 8, 8, 8, 8, 8, 8, 8, 8, 8, 8, 8, 8, 8, 8, 8, 8, 8, 8, 8, 8, 8, 8, 8, 8, 8, 8, 8, 8, 8, 8, 8, 8, 8, 8, 8, 8, 8, 8, 8, 8, 8, 8, 8, 8, 8, 8, 8, 8] : List UInt8)).length : Int) then
          some ((IntKind.i64.wrap ((IntKind.i64.wrap (n2 + 8)) + (IntKind.i64.wrap ((((([0, 1, 2, 2, 3, 3, 3, 3, 4, 4, 4, 4, 4, 4, 4, 4, 5, 5, 5, 5, 5, 5, 5, 5, 5, 5, 5, 5, 5, 5, 5, 5, 6, 6, 6, 6, 6, 6, 6, 6, 6, 6, 6, 6, 6, 6, 6, 6, 6, 6, 6, 6, 6, 6, 6, 6, 6, 6, 6, 6, 6, 6, 6, 6, 7, 7, 7, 7, 7, 7, 7, 7, 7, 7, 7, 7, 7, 7, 7, 7, 7, 7, 7, 7, 7, 7, 7, 7, 7, 7, 7, 7, 7, 7, 7, 7, 7, 7, 7, 7, 7, 7, 7, 7, 7, 7, 7, 7, 7, 7, 7, 7, 7, 7, 7, 7, 7, 7, 7, 7, 7, 7, 7, 7, 7, 7, 7, 7, 8, 8, 8, 8, 8, 8, 8, 8, 8, 8, 8, 8, 8, 8, 8, 8, 8, 8, 8, 8, 8, 8, 8, 8, 8, 8, 8, 8, 8, 8, 8, 8, 8, 8, 8, 8, 8, 8, 8, 8, 8, 8, 8, 8, 8, 8, 8, 8, 8, 8, 8, 8, 8, 8, 8, 8, 8, 8, 8, 8, 8, 8, 8, 8, 8, 8, 8, 8, 8, 8, 8, 8, 8, 8, 8, 8, 8, 8, 8, 8, 8, 8, 8, 8, 8, 8, 8, 8, 8, 8, 8, 8, 8, 8, 8, 8, 8, 8, 8, 8, 8, 8, 8, 8, 8, 8, 8, 8, 8, 8, 8, 8, 8, 8, 8, 8, 8, 8, 8, 8, 8, 8, 8, 8, 8, 8, 8, 8] : List UInt8)).getD ((IntKind.u8.wrap (Int.fdiv x0 (2 ^ 8))).toNat) 0).toNat : Int))))))
        else none
      else
        if 0 ≤ IntKind.u8.wrap (x0) ∧ IntKind.u8.wrap (x0) < ((([0, 1, 2, 2, 3, 3, 3, 3, 4, 4, 4, 4, 4, 4, 4, 4, 5, 5, 5, 5, 5, 5, 5, 5, 5, 5, 5, 5, 5, 5, 5, 5, 6, 6, 6, 6, 6, 6, 6, 6, 6, 6, 6, 6, 6, 6, 6, 6, 6, 6, 6, 6, 6, 6, 6, 6, 6, 6, 6, 6, 6, 6, 6, 6, 7, 7, 7, 7, 7, 7, 7, 7, 7, 7, 7, 7, 7, 7, 7, 7, 7, 7, 7, 7, 7, 7, 7, 7, 7, 7, 7, 7, 7, 7, 7, 7, 7, 7, 7, 7, 7, 7, 7, 7, 7, 7, 7, 7, 7, 7, 7, 7, 7, 7, 7, 7, 7, 7, 7, 7, 7, 7, 7, 7, 7, 7, 7, 7, 8, 8, 8, 8, 8, 8, 8, 8, 8, 8, 8, 8, 8, 8, 8, 8, 8, 8, 8, 8, 8, 8, 8, 8, 8, 8, 8, 8, 8, 8, 8, 8, 8, 8, 8, 8, 8, 8, 8, 8, 8, 8, 8, 8, 8, 8, 8, 8, 8, 8, 8, 8, 8, 8, 8, 8, 8, 8, 8, 8, 8, 8, 8, 8, 8, 8, 8, 8, 8, 8, 8, 8, 8, 8, 8, 8, 8, 8, 8, 8, 8, 8, 8, 8, 8, 8, 8, 8, 8, 8, 8, 8, 8, 8, 8, 8, 8, 8, 8, 8, 8, 8, 8, 8, 8, 8, 8, 8, 8, 8, 8, 8, 8, 8, 8, 8, 8, 8, 8, 8, 8, 8, 8, 8, 8, 8, 8, 8] : List UInt8)).length : Int) then
          some ((IntKind.i64.wrap (n2 + (IntKind.i64.wrap ((((([0, 1, 2, 2, 3, 3, 3, 3, 4, 4, 4, 4, 4, 4, 4, 4, 5, 5, 5, 5, 5, 5, 5, 5, 5, 5, 5, 5, 5, 5, 5, 5, 6, 6, 6, 6, 6, 6, 6, 6, 6, 6, 6, 6, 6, 6, 6, 6, 6, 6, 6, 6, 6, 6, 6, 6, 6, 6, 6, 6, 6, 6, 6, 6, 7, 7, 7, 7, 7, 7, 7, 7, 7, 7, 7, 7, 7, 7, 7, 7, 7, 7, 7, 7, 7, 7, 7, 7, 7, 7, 7, 7, 7, 7, 7, 7, 7, 7, 7, 7, 7, 7, 7, 7, 7, 7, 7, 7, 7, 7, 7, 7, 7, 7, 7, 7, 7, 7, 7, 7, 7, 7, 7, 7, 7, 7, 7, 7, 8, 8, 8, 8, 8, 8, 8, 8, 8, 8, 8, 8, 8, 8, 8, 8, 8, 8, 8, 8, 8, 8, 8, 8, 8, 8, 8, 8, 8, 8, 8, 8, 8, 8, 8, 8, 8, 8, 8, 8, 8, 8, 8, 8, 8, 8, 8, 8, 8, 8, 8, 8, 8, 8, 8, 8, 8, 8, 8, 8, 8, 8, 8, 8, 8, 8, 8, 8, 8, 8, 8, 8, 8, 8, 8, 8, 8, 8, 8, 8, 8, 8, 8, 8, 8, 8, 8, 8, 8, 8, 8, 8, 8, 8, 8, 8, 8, 8, 8, 8, 8, 8, 8, 8, 8, 8, 8, 8, 8, 8, 8, 8, 8, 8, 8, 8, 8, 8, 8, 8, 8, 8, 8, 8, 8, 8, 8, 8] : List UInt8)).getD ((IntKind.u8.wrap (x0)).toNat) 0).toNat : Int))))))
        else none

theorem bits_Len64.le : ∀ a, Le (bits_Len64.e a) (bits_Len64 a) := fun x0 => Le.bind (Le.ite (Le.rfl) (Le.rfl)) (fun (x0, n2) => Le.bind (Le.ite (Le.rfl) (Le.rfl)) (fun (x0, n2) => Le.ite (Le.ite (Le.rfl) (Le.rfl)) (Le.ite (Le.rfl) (Le.rfl))))

def bits_Len.e : Int → Option (Int) := fun x0 =>
  (bits_Len64.e x0).bind fun r7 =>
    some r7

theorem bits_Len.le : ∀ a, Le (bits_Len.e a) (bits_Len a) := fun x0 => Le.bind (bits_Len64.le x0) (fun r7 => Le.rfl)

def cmp_isNaN_int.e : Int → Option (Bool) := fun x0 =>
  some (((x0 != x0)))

theorem cmp_isNaN_int.le : ∀ a, Le (cmp_isNaN_int.e a) (cmp_isNaN_int a) := fun x0 => Le.rfl

def cmp_Compare_int.e : (Int × Int) → Option (Int) := fun (x0, y1) =>
  (cmp_isNaN_int.e x0).bind fun r8 =>
    (cmp_isNaN_int.e y1).bind fun r10 =>
      if r8 = true then
        if r10 = true then
          some 0
        else
          some (-1)
      else
        if r10 = true then
          some 1
        else
          if decide (x0 < y1) = true then
            some (-1)
          else
            if decide (x0 > y1) = true then
              some 1
            else
              some 0

theorem cmp_Compare_int.le : ∀ a, Le (cmp_Compare_int.e a) (cmp_Compare_int a) := fun (x0, y1) => Le.bind (cmp_isNaN_int.le x0) (fun r8 => Le.bind (cmp_isNaN_int.le y1) (fun r10 => Le.ite (Le.ite (Le.rfl) (Le.rfl)) (Le.ite (Le.rfl) (Le.ite (Le.rfl) (Le.ite (Le.rfl) (Le.rfl))))))

def spans_Blocks_1.l2e : ((List Int × Int × Int × Int) × (List (Int × Int × Int)) × Int × Int × Int × Int) → Option (((List Int × Int × Int × Int) × (List (Int × Int × Int)) × Int × Int × Int × Int) ⊕ (List Int × (List (Int × Int × Int)) × Int × Int)) := fun ((out3, s5a, s5b, s5c), t7, t8, t9, t16, t17) =>
  if decide (t17 < t16) = true then
    if roomOk (out3.length + (([IntKind.i64.wrap (s5b + t17)] : List Int)).length) 8 then
      some (.inl (((out3 ++ (([IntKind.i64.wrap (s5b + t17)] : List Int)), s5a, s5b, s5c), t7, t8, t9, t16, IntKind.i64.wrap (t17 + 1))))
    else none
  else
    some (.inr (((out3, t7, t8, t9))))

def spans_Blocks_1.l1e : (List Int × (List (Int × Int × Int)) × Int × Int) → Option ((List Int × (List (Int × Int × Int)) × Int × Int) ⊕ (List Int)) := fun (out3, t7, t8, t9) =>
  if decide (t9 < t8) = true then
    if 0 ≤ t9 ∧ t9 < (t7.length : Int) then
      (iter spans_Blocks_1.l2e fuel (((out3, (t7.getD t9.toNat (0, (0, 0))).1, ((t7.getD t9.toNat (0, (0, 0))).2).1, ((t7.getD t9.toNat (0, (0, 0))).2).2), t7, t8, t9, (if 65536 < (if 0 > ((t7.getD t9.toNat (0, (0, 0))).2).2 then 0 else ((t7.getD t9.toNat (0, (0, 0))).2).2) then 65536 else (if 0 > ((t7.getD t9.toNat (0, (0, 0))).2).2 then 0 else ((t7.getD t9.toNat (0, (0, 0))).2).2)), 0))).bind fun (out3, t7, t8, t9) =>
        some (.inl ((out3, t7, t8, IntKind.i64.wrap (t9 + 1))))
    else none
  else
    some (.inr out3)

def spans_Blocks_1.e : (List (Int × Int × Int)) → Option (List Int) := fun l0 =>
  (iter spans_Blocks_1.l1e fuel (([], l0, (l0.length : Int), 0))).bind fun out3 =>
    some out3

theorem spans_Blocks_1.l2.le : ∀ s, Le (spans_Blocks_1.l2e s) (spans_Blocks_1.l2 s) := fun ((out3, s5a, s5b, s5c), t7, t8, t9, t16, t17) => Le.ite (Le.ite (Le.rfl) (Le.rfl)) (Le.rfl)
theorem spans_Blocks_1.l1.le : ∀ s, Le (spans_Blocks_1.l1e s) (spans_Blocks_1.l1 s) := fun (out3, t7, t8, t9) => Le.ite (Le.ite (Le.bind (Le.loop spans_Blocks_1.l2.le) (fun (out3, t7, t8, t9) => Le.rfl)) (Le.rfl)) (Le.rfl)
theorem spans_Blocks_1.le : ∀ a, Le (spans_Blocks_1.e a) (spans_Blocks_1 a) := fun l0 => Le.bind (Le.loop spans_Blocks_1.l1.le) (fun out3 => Le.rfl)

def slices_insertionSortCmpFunc_int.l2e : (List Int × Int × Int × Int × Int) → Option ((List Int × Int × Int × Int × Int) ⊕ (List Int × Int × Int × Int)) := fun (data0, a1, b2, i8, j9) =>
  if decide (j9 > a1) = true then
    if 0 ≤ j9 ∧ j9 < (data0.length : Int) then
      if 0 ≤ IntKind.i64.wrap (j9 - 1) ∧ IntKind.i64.wrap (j9 - 1) < (data0.length : Int) then
        (cmp_Compare_int.e (data0.getD j9.toNat 0, data0.getD ((IntKind.i64.wrap (j9 - 1)).toNat) 0)).bind fun r32 =>
          if decide (r32 < 0) = true then
            if 0 ≤ IntKind.i64.wrap (j9 - 1) ∧ IntKind.i64.wrap (j9 - 1) < (data0.length : Int) then
              if 0 ≤ j9 ∧ j9 < (data0.length : Int) then
                if 0 ≤ j9 ∧ j9 < (data0.length : Int) then
                  if 0 ≤ IntKind.i64.wrap (j9 - 1) ∧ IntKind.i64.wrap (j9 - 1) < ((data0.set j9.toNat (data0.getD ((IntKind.i64.wrap (j9 - 1)).toNat) 0)).length : Int) then
                    some (.inl (((data0.set j9.toNat (data0.getD ((IntKind.i64.wrap (j9 - 1)).toNat) 0)).set ((IntKind.i64.wrap (j9 - 1)).toNat) (data0.getD j9.toNat 0), a1, b2, i8, IntKind.i64.wrap (j9 - 1))))
                  else none
                else none
              else none
            else none
          else
            some (.inr (((data0, a1, b2, i8))))
      else none
    else none
  else
    some (.inr (((data0, a1, b2, i8))))

def slices_insertionSortCmpFunc_int.l1e : (List Int × Int × Int × Int) → Option ((List Int × Int × Int × Int) ⊕ (List Int)) := fun (data0, a1, b2, i8) =>
  if decide (i8 < b2) = true then
    (iter slices_insertionSortCmpFunc_int.l2e fuel ((data0, a1, b2, i8, i8))).bind fun (data0, a1, b2, i8) =>
      some (.inl ((data0, a1, b2, IntKind.i64.wrap (i8 + 1))))
  else
    some (.inr data0)

def slices_insertionSortCmpFunc_int.e : (List Int × Int × Int) → Option (List Int) := fun (data0, a1, b2) =>
  (iter slices_insertionSortCmpFunc_int.l1e fuel ((data0, a1, b2, IntKind.i64.wrap (a1 + 1)))).bind fun o0 =>
    some o0

theorem slices_insertionSortCmpFunc_int.l2.le : ∀ s, Le (slices_insertionSortCmpFunc_int.l2e s) (slices_insertionSortCmpFunc_int.l2 s) := fun (data0, a1, b2, i8, j9) => Le.ite (Le.ite (Le.ite (Le.bind (cmp_Compare_int.le (data0.getD j9.toNat 0, data0.getD ((IntKind.i64.wrap (j9 - 1)).toNat) 0)) (fun r32 => Le.ite (Le.ite (Le.ite (Le.ite (Le.ite (Le.rfl) (Le.rfl)) (Le.rfl)) (Le.rfl)) (Le.rfl)) (Le.rfl))) (Le.rfl)) (Le.rfl)) (Le.rfl)
theorem slices_insertionSortCmpFunc_int.l1.le : ∀ s, Le (slices_insertionSortCmpFunc_int.l1e s) (slices_insertionSortCmpFunc_int.l1 s) := fun (data0, a1, b2, i8) => Le.ite (Le.bind (Le.loop slices_insertionSortCmpFunc_int.l2.le) (fun (data0, a1, b2, i8) => Le.rfl)) (Le.rfl)
theorem slices_insertionSortCmpFunc_int.le : ∀ a, Le (slices_insertionSortCmpFunc_int.e a) (slices_insertionSortCmpFunc_int a) := fun (data0, a1, b2) => Le.bind (Le.loop slices_insertionSortCmpFunc_int.l1.le) (fun o0 => Le.rfl)

def slices_pdqsortCmpFunc_int.l1e : (List Int × Int × Int × Int × Bool × Bool) → Option ((List Int × Int × Int × Int × Bool × Bool) ⊕ (List Int)) := fun (data0, a1, b2, limit3, wasBalanced10, wasPartitioned11) =>
  if decide (IntKind.i64.wrap (b2 - a1) ≤ 12) = true then
    (slices_insertionSortCmpFunc_int.e (data0, a1, b2)).bind fun r30 =>
      some (.inr r30)
  else
    if (limit3 == 0) = true then none else
    ((
      if (!wasBalanced10) = true then none else
      some (((data0, a1, b2, limit3, wasBalanced10, wasPartitioned11, IntKind.i64.wrap (b2 - a1))))) : Option (List Int × Int × Int × Int × Bool × Bool × Int)).bind fun (data0, a1, b2, limit3, wasBalanced10, wasPartitioned11, length12) =>
      none

def slices_pdqsortCmpFunc_int.e : (List Int × Int × Int × Int) → Option (List Int) := fun (data0, a1, b2, limit3) =>
  (iter slices_pdqsortCmpFunc_int.l1e fuel ((data0, a1, b2, limit3, true, true))).bind fun o0 =>
    some o0

theorem slices_pdqsortCmpFunc_int.l1.le : ∀ s, Le (slices_pdqsortCmpFunc_int.l1e s) (slices_pdqsortCmpFunc_int.l1 s) := fun (data0, a1, b2, limit3, wasBalanced10, wasPartitioned11) => Le.ite (Le.bind (slices_insertionSortCmpFunc_int.le (data0, a1, b2)) (fun r30 => Le.rfl)) (Le.ite (Le.rfl) (Le.bind (Le.ite (Le.rfl) (Le.rfl)) (fun (data0, a1, b2, limit3, wasBalanced10, wasPartitioned11, length12) => Le.rfl)))
theorem slices_pdqsortCmpFunc_int.le : ∀ a, Le (slices_pdqsortCmpFunc_int.e a) (slices_pdqsortCmpFunc_int a) := fun (data0, a1, b2, limit3) => Le.bind (Le.loop slices_pdqsortCmpFunc_int.l1.le) (fun o0 => Le.rfl)

def slices_SortFunc_int_int.e : List Int → Option (List Int) := fun x0 =>
  (bits_Len.e (IntKind.u64.wrap ((x0.length : Int)))).bind fun r11 =>
    (slices_pdqsortCmpFunc_int.e (x0, 0, (x0.length : Int), r11)).bind fun r13 =>
      some r13

theorem slices_SortFunc_int_int.le : ∀ a, Le (slices_SortFunc_int_int.e a) (slices_SortFunc_int_int a) := fun x0 => Le.bind (bits_Len.le (IntKind.u64.wrap ((x0.length : Int)))) (fun r11 => Le.bind (slices_pdqsortCmpFunc_int.le (x0, 0, (x0.length : Int), r11)) (fun r13 => Le.rfl))

def slices_Clone_int_int_1.e : List Int → Option (List Int) := fun s0 =>
  if s0.isEmpty = true then
    agreeE (
      some []) (
      if roomOk ((([] : List Int)).length + s0.length) 8 then
        some (((([] : List Int)) ++ s0))
      else none)
  else
    if roomOk ((([] : List Int)).length + s0.length) 8 then
      some (((([] : List Int)) ++ s0))
    else none

theorem slices_Clone_int_int_1.le : ∀ a, Le (slices_Clone_int_int_1.e a) (slices_Clone_int_int_1 a) := fun s0 => Le.ite (Le.agree (Le.rfl) (Le.ite (Le.rfl) (Le.rfl))) (Le.ite (Le.rfl) (Le.rfl))

def slices_Compact_int_int.l2e : (List Int × Int × Int × Nat × Nat) → Option ((List Int × Int × Int × Nat × Nat) ⊕ (List Int × Int)) := fun (s0, k3, k25, s24o, s24n) =>
  if decide (k25 < (s24n : Int)) = true then
    if 0 ≤ k25 ∧ k25 < (s24n : Int) then
      if 0 ≤ IntKind.i64.wrap (k25 - 1) ∧ IntKind.i64.wrap (k25 - 1) < (s24n : Int) then
        if (s0.getD ((s24o + k25.toNat)) 0 != s0.getD ((s24o + (IntKind.i64.wrap (k25 - 1)).toNat)) 0) = true then
          if 0 ≤ k25 ∧ k25 < (s24n : Int) then
            if 0 ≤ k3 ∧ k3 < (s0.length : Int) then
              some (.inl ((s0.set k3.toNat (s0.getD ((s24o + k25.toNat)) 0), IntKind.i64.wrap (k3 + 1), IntKind.i64.wrap (k25 + 1), s24o, s24n)))
            else none
          else none
        else
          some (.inl ((s0, k3, IntKind.i64.wrap (k25 + 1), s24o, s24n)))
      else none
    else none
  else
    some (.inr (((s0, k3))))

def slices_Compact_int_int.l1e : (List Int × Int) → Option ((List Int × Int) ⊕ ((List Int) ⊕ (List Int × Nat × Nat))) := fun (s0, k3) =>
  if decide (k3 < (s0.length : Int)) = true then
    if 0 ≤ k3 ∧ k3 < (s0.length : Int) then
      if 0 ≤ IntKind.i64.wrap (k3 - 1) ∧ IntKind.i64.wrap (k3 - 1) < (s0.length : Int) then
        if (s0.getD k3.toNat 0 == s0.getD ((IntKind.i64.wrap (k3 - 1)).toNat) 0) = true then
          if 0 ≤ k3 ∧ k3 ≤ (s0.length : Int) then
            (iter slices_Compact_int_int.l2e fuel ((s0, k3, 1, k3.toNat, ((s0.length : Int) - k3).toNat))).bind fun (s0, k3) =>
              if 0 ≤ k3 ∧ k3 ≤ (s0.length : Int) then
                if 0 ≤ k3 ∧ k3 ≤ ((s0.take k3.toNat ++ List.replicate (((s0.length : Int) - k3).toNat) (0 : Int) ++ s0.drop (k3.toNat + ((s0.length : Int) - k3).toNat)).length : Int) then
                  some (.inr (.inr (((s0.take k3.toNat ++ List.replicate (((s0.length : Int) - k3).toNat) (0 : Int) ++ s0.drop (k3.toNat + ((s0.length : Int) - k3).toNat), 0, (k3 - 0).toNat)))))
                else none
              else none
          else none
        else
          some (.inl ((s0, IntKind.i64.wrap (k3 + 1))))
      else none
    else none
  else
    some (.inr (.inl s0))

def slices_Compact_int_int.e : List Int → Option (List Int) := fun s0 =>
  if decide ((s0.length : Int) < 2) = true then
    some s0
  else
    (iter slices_Compact_int_int.l1e fuel ((s0, 1))).bind fun d => match d with
    | .inl s0 =>
      some s0
    | .inr ((o0, t2o, t2n)) =>
      some ((((o0).drop t2o).take t2n))

theorem slices_Compact_int_int.l2.le : ∀ s, Le (slices_Compact_int_int.l2e s) (slices_Compact_int_int.l2 s) := fun (s0, k3, k25, s24o, s24n) => Le.ite (Le.ite (Le.ite (Le.ite (Le.ite (Le.ite (Le.rfl) (Le.rfl)) (Le.rfl)) (Le.rfl)) (Le.rfl)) (Le.rfl)) (Le.rfl)
theorem slices_Compact_int_int.l1.le : ∀ s, Le (slices_Compact_int_int.l1e s) (slices_Compact_int_int.l1 s) := fun (s0, k3) => Le.ite (Le.ite (Le.ite (Le.ite (Le.ite (Le.bind (Le.loop slices_Compact_int_int.l2.le) (fun (s0, k3) => Le.ite (Le.ite (Le.rfl) (Le.rfl)) (Le.rfl))) (Le.rfl)) (Le.rfl)) (Le.rfl)) (Le.rfl)) (Le.rfl)
theorem slices_Compact_int_int.le : ∀ a, Le (slices_Compact_int_int.e a) (slices_Compact_int_int a) := fun s0 => Le.ite (Le.rfl) (Le.bind (Le.loop slices_Compact_int_int.l1.le) (fun d => match d with | .inl s0 => Le.rfl | .inr ((o0, t2o, t2n)) => Le.rfl))

def spans_Apart.e : (List (Int × Int × Int)) → Option (Bool) := fun l0 =>
  (spans_Blocks_1.e l0).bind fun r5 =>
    (slices_SortFunc_int_int.e r5).bind fun r7 =>
      (slices_Clone_int_int_1.e r7).bind fun r9 =>
        (slices_Compact_int_int.e r9).bind fun r10 =>
          some ((((r10.length : Int) == (r7.length : Int))))

theorem spans_Apart.le : ∀ a, Le (spans_Apart.e a) (spans_Apart a) := fun l0 => Le.bind (spans_Blocks_1.le l0) (fun r5 => Le.bind (slices_SortFunc_int_int.le r5) (fun r7 => Le.bind (slices_Clone_int_int_1.le r7) (fun r9 => Le.bind (slices_Compact_int_int.le r9) (fun r10 => Le.rfl))))

def wainwrightlaw04_lives.e : Unit → Option (Bool) := fun _ =>
  (spans_Of.e ([7, 8, 0, 9, 10] : List Int)).bind fun r3 =>
    if ((r3.length : Int) == 2) = true then
      if 0 ≤ (0 : Int) ∧ (0 : Int) < (r3.length : Int) then
        if (((r3.getD 0 (0, (0, 0))).1 == 0) && ((((r3.getD 0 (0, (0, 0))).2).1 == 7) && (((r3.getD 0 (0, (0, 0))).2).2 == 2))) = true then
          if 0 ≤ (1 : Int) ∧ (1 : Int) < (r3.length : Int) then
            if (((r3.getD 1 (0, (0, 0))).1 == 3) && ((((r3.getD 1 (0, (0, 0))).2).1 == 9) && (((r3.getD 1 (0, (0, 0))).2).2 == 2))) = true then
              (spans_Right.e r3).bind fun r23 =>
                if r23 = true then
                  (spans_At.e (r3, 4)).bind fun r27 =>
                    if (r27 == 10) = true then
                      (spans_Apart.e r3).bind fun r32 =>
                        some r32
                    else
                      some false
                else
                  some false
            else
              some false
          else none
        else
          some false
      else none
    else
      some false

theorem wainwrightlaw04_lives.le : ∀ a, Le (wainwrightlaw04_lives.e a) (wainwrightlaw04_lives a) := fun _ => Le.bind (spans_Of.le ([7, 8, 0, 9, 10] : List Int)) (fun r3 => Le.ite (Le.ite (Le.ite (Le.ite (Le.ite (Le.bind (spans_Right.le r3) (fun r23 => Le.ite (Le.bind (spans_At.le (r3, 4)) (fun r27 => Le.ite (Le.bind (spans_Apart.le r3) (fun r32 => Le.rfl)) (Le.rfl))) (Le.rfl))) (Le.rfl)) (Le.rfl)) (Le.rfl)) (Le.rfl)) (Le.rfl))

end Go.Proofs.Ytnbhmifidhoblaa.Abs
