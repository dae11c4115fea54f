/- The same functions, each loop with so many rounds at most: printed by gen2.py (own work). -/
import Derived.Test.YtnbhmifidhoblaaDoorFns
import Derived.Test.YtnbhmifidhoblaaDoorAbsEval
namespace Go.Proofs.YtnbhmifidhoblaaDoor.Abs
open Go Go.Proofs
set_option maxRecDepth 100000
set_option linter.unusedVariables false

def rolls_odd.e : (List UInt8 × Int) → Option (Bool) := fun x0 =>
  if (!((x0.1 == []) && (x0.2 == 0))) = true then
    if decide (x0.2 < 1) = false then
      if decide (x0.2 > 65535) = false then
        (paths_Right x0.1).bind fun r18 =>
          some (!r18)
      else
        some true
    else
      some true
  else
    some false

theorem rolls_odd.le : ∀ a, Le (rolls_odd.e a) (rolls_odd a) := fun x0 => Le.ite (Le.ite (Le.ite (Le.bind Le.rfl (fun r18 => Le.rfl)) (Le.rfl)) (Le.rfl)) (Le.rfl)

def api_Entry.l1e : ((List (List UInt8 × Int)) × Int × Int) → Option (((List (List UInt8 × Int)) × Int × Int) ⊕ (Unit ⊕ Int)) := fun (s0, t7, t8) =>
  if decide (t8 < t7) = true then
    if 0 ≤ t8 ∧ t8 < (s0.length : Int) then
      (rolls_odd.e ((s0.getD t8.toNat ([], 0)).1, (s0.getD t8.toNat ([], 0)).2)).bind fun r16 =>
        if r16 = true then
          some (.inr (.inr t8))
        else
          some (.inl ((s0, t7, IntKind.i64.wrap (t8 + 1))))
    else none
  else
    some (.inr (.inl ()))

def api_Entry.e : (List (List UInt8 × Int)) → Option (Int) := fun s0 =>
  (iter api_Entry.l1e fuel ((s0, (s0.length : Int), 0))).bind fun d => match d with
  | .inl _ =>
    some (-1)
  | .inr t4 =>
    some t4

theorem api_Entry.l1.le : ∀ s, Le (api_Entry.l1e s) (api_Entry.l1 s) := fun (s0, t7, t8) => Le.ite (Le.ite (Le.bind (rolls_odd.le ((s0.getD t8.toNat ([], 0)).1, (s0.getD t8.toNat ([], 0)).2)) (fun r16 => Le.ite (Le.rfl) (Le.rfl))) (Le.rfl)) (Le.rfl)
theorem api_Entry.le : ∀ a, Le (api_Entry.e a) (api_Entry a) := fun s0 => Le.bind (Le.loop api_Entry.l1.le) (fun d => match d with | .inl _ => Le.rfl | .inr t4 => Le.rfl)

def api_Entry_1.e : (List (List UInt8 × Int)) → Option (Bool) := fun s0 =>
  (api_Entry.e s0).bind fun r7 =>
    some ((decide (r7 ≥ 0)))

theorem api_Entry_1.le : ∀ a, Le (api_Entry_1.e a) (api_Entry_1 a) := fun s0 => Le.bind (api_Entry.le s0) (fun r7 => Le.rfl)

def rolls_left.e : (List UInt8 × Int) → Option (Bool) := fun x0 =>
  some (((x0.2 == 0)))

theorem rolls_left.le : ∀ a, Le (rolls_left.e a) (rolls_left a) := fun x0 => Le.rfl

def api_Entry_3.l1e : ((List (List UInt8 × Int)) × Int × Int) → Option (((List (List UInt8 × Int)) × Int × Int) ⊕ (Unit ⊕ Int)) := fun (s0, t7, t8) =>
  if decide (t8 < t7) = true then
    if 0 ≤ t8 ∧ t8 < (s0.length : Int) then
      (rolls_left.e ((s0.getD t8.toNat ([], 0)).1, (s0.getD t8.toNat ([], 0)).2)).bind fun r16 =>
        if r16 = true then
          some (.inr (.inr t8))
        else
          some (.inl ((s0, t7, IntKind.i64.wrap (t8 + 1))))
    else none
  else
    some (.inr (.inl ()))

def api_Entry_3.e : (List (List UInt8 × Int)) → Option (Int) := fun s0 =>
  (iter api_Entry_3.l1e fuel ((s0, (s0.length : Int), 0))).bind fun d => match d with
  | .inl _ =>
    some (-1)
  | .inr t4 =>
    some t4

theorem api_Entry_3.l1.le : ∀ s, Le (api_Entry_3.l1e s) (api_Entry_3.l1 s) := fun (s0, t7, t8) => Le.ite (Le.ite (Le.bind (rolls_left.le ((s0.getD t8.toNat ([], 0)).1, (s0.getD t8.toNat ([], 0)).2)) (fun r16 => Le.ite (Le.rfl) (Le.rfl))) (Le.rfl)) (Le.rfl)
theorem api_Entry_3.le : ∀ a, Le (api_Entry_3.e a) (api_Entry_3 a) := fun s0 => Le.bind (Le.loop api_Entry_3.l1.le) (fun d => match d with | .inl _ => Le.rfl | .inr t4 => Le.rfl)

def api_Entry_4.e : (List (List UInt8 × Int)) → Option (List (List UInt8 × Int)) := fun s0 =>
  if s0.isEmpty = true then
    agreeE (
      some []) (
      if roomOk ((([] : List (List UInt8 × Int))).length + s0.length) 24 then
        some (((([] : List (List UInt8 × Int))) ++ s0))
      else none)
  else
    if roomOk ((([] : List (List UInt8 × Int))).length + s0.length) 24 then
      some (((([] : List (List UInt8 × Int))) ++ s0))
    else none

theorem api_Entry_4.le : ∀ a, Le (api_Entry_4.e a) (api_Entry_4 a) := fun s0 => Le.ite (Le.agree (Le.rfl) (Le.ite (Le.rfl) (Le.rfl))) (Le.ite (Le.rfl) (Le.rfl))

def api_Entry_5.l1e : ((List (List UInt8 × Int)) × Int × Int) → Option (((List (List UInt8 × Int)) × Int × Int) ⊕ ((List (List UInt8 × Int)) × Int)) := fun (s0, i5, j6) =>
  if decide (j6 < (s0.length : Int)) = true then
    if 0 ≤ j6 ∧ j6 < (s0.length : Int) then
      (rolls_left.e ((s0.getD j6.toNat ([], 0)).1, (s0.getD j6.toNat ([], 0)).2)).bind fun r28 =>
        if (!r28) = true then
          if 0 ≤ i5 ∧ i5 < (s0.length : Int) then
            some (.inl ((s0.set i5.toNat (((s0.getD j6.toNat ([], 0)).1, (s0.getD j6.toNat ([], 0)).2)), IntKind.i64.wrap (i5 + 1), IntKind.i64.wrap (j6 + 1))))
          else none
        else
          some (.inl ((s0, i5, IntKind.i64.wrap (j6 + 1))))
    else none
  else
    some (.inr (((s0, i5))))

def api_Entry_5.e : (List (List UInt8 × Int)) → Option (List (List UInt8 × Int)) := fun s0 =>
  (api_Entry_3.e s0).bind fun r10 =>
    if (r10 == (-1)) = true then
      some s0
    else
      (iter api_Entry_5.l1e fuel ((s0, r10, IntKind.i64.wrap (r10 + 1)))).bind fun (s0, i5) =>
        if 0 ≤ i5 ∧ i5 ≤ (s0.length : Int) then
          if 0 ≤ i5 ∧ i5 ≤ ((s0.take i5.toNat ++ List.replicate (((s0.length : Int) - i5).toNat) (([], 0) : List UInt8 × Int) ++ s0.drop (i5.toNat + ((s0.length : Int) - i5).toNat)).length : Int) then
            some ((((s0.take i5.toNat ++ List.replicate (((s0.length : Int) - i5).toNat) (([], 0) : List UInt8 × Int) ++ s0.drop (i5.toNat + ((s0.length : Int) - i5).toNat)).drop 0).take ((i5 - 0).toNat)))
          else none
        else none

theorem api_Entry_5.l1.le : ∀ s, Le (api_Entry_5.l1e s) (api_Entry_5.l1 s) := fun (s0, i5, j6) => Le.ite (Le.ite (Le.bind (rolls_left.le ((s0.getD j6.toNat ([], 0)).1, (s0.getD j6.toNat ([], 0)).2)) (fun r28 => Le.ite (Le.ite (Le.rfl) (Le.rfl)) (Le.rfl))) (Le.rfl)) (Le.rfl)
theorem api_Entry_5.le : ∀ a, Le (api_Entry_5.e a) (api_Entry_5 a) := fun s0 => Le.bind (api_Entry_3.le s0) (fun r10 => Le.ite (Le.rfl) (Le.bind (Le.loop api_Entry_5.l1.le) (fun (s0, i5) => Le.ite (Le.ite (Le.rfl) (Le.rfl)) (Le.rfl))))

def rolls_Live.e : (List (List UInt8 × Int)) → Option (List (List UInt8 × Int)) := fun l0 =>
  (api_Entry_4.e l0).bind fun r4 =>
    (api_Entry_5.e r4).bind fun r5 =>
      some r5

theorem rolls_Live.le : ∀ a, Le (rolls_Live.e a) (rolls_Live a) := fun l0 => Le.bind (api_Entry_4.le l0) (fun r4 => Le.bind (api_Entry_5.le r4) (fun r5 => Le.rfl))

def rolls_Right.l1e : ((List (List UInt8 × Int)) × (List (List UInt8 × Int)) × (List (List UInt8 × Int)) × Int × Int) → Option (((List (List UInt8 × Int)) × (List (List UInt8 × Int)) × (List (List UInt8 × Int)) × Int × Int) ⊕ ((List (List UInt8 × Int)) × List (List UInt8 × Int))) := fun (seen3, l0, t16, t17, t18) =>
  if decide (t18 < t17) = true then
    if 0 ≤ t18 ∧ t18 < (t16.length : Int) then
      some (.inl ((mput (K := .str) (V := I) seen3 ((t16.getD t18.toNat ([], 0)).1) (IntKind.i64.wrap (((mget (K := .str) (V := I) seen3 ((t16.getD t18.toNat ([], 0)).1)).getD 0) + 1)), l0, t16, t17, IntKind.i64.wrap (t18 + 1))))
    else none
  else
    some (.inr (((seen3, l0))))

def rolls_Right.e : (List (List UInt8 × Int)) → Option (Bool) := fun l0 =>
  if (Int.tmod (l0.length : Int) 8 != 0) = false then
    (api_Entry_1.e l0).bind fun r12 =>
      if r12 = true then
        some false
      else
        (rolls_Live.e l0).bind fun r16 =>
          (iter rolls_Right.l1e fuel ((([] : List (List UInt8 × Int)), l0, r16, (r16.length : Int), 0))).bind fun (seen3, l0) =>
            (rolls_Live.e l0).bind fun r31 =>
              if ((seen3.length : Int) == (r31.length : Int)) = true then
                some ((decide ((seen3.length : Int) ≤ 160)))
              else
                some false
  else
    some false

theorem rolls_Right.l1.le : ∀ s, Le (rolls_Right.l1e s) (rolls_Right.l1 s) := fun (seen3, l0, t16, t17, t18) => Le.ite (Le.ite (Le.rfl) (Le.rfl)) (Le.rfl)
theorem rolls_Right.le : ∀ a, Le (rolls_Right.e a) (rolls_Right a) := fun l0 => Le.ite (Le.bind (api_Entry_1.le l0) (fun r12 => Le.ite (Le.rfl) (Le.bind (rolls_Live.le l0) (fun r16 => Le.bind (Le.loop rolls_Right.l1.le) (fun (seen3, l0) => Le.bind (rolls_Live.le l0) (fun r31 => Le.ite (Le.rfl) (Le.rfl))))))) (Le.rfl)

def rolls_at_1.e : ((List UInt8 × Int) × List UInt8) → Option (Bool) := fun (x0, t1) =>
  some (((x0.1 == t1)))

theorem rolls_at_1.le : ∀ a, Le (rolls_at_1.e a) (rolls_at_1 a) := fun (x0, t1) => Le.rfl

def api_Entry_6.l1e : ((List (List UInt8 × Int)) × List UInt8 × Int × Int) → Option (((List (List UInt8 × Int)) × List UInt8 × Int × Int) ⊕ (Unit ⊕ Int)) := fun (s0, f1c0, t7, t8) =>
  if decide (t8 < t7) = true then
    if 0 ≤ t8 ∧ t8 < (s0.length : Int) then
      (rolls_at_1.e (((s0.getD t8.toNat ([], 0)).1, (s0.getD t8.toNat ([], 0)).2), f1c0)).bind fun r16 =>
        if r16 = true then
          some (.inr (.inr t8))
        else
          some (.inl ((s0, f1c0, t7, IntKind.i64.wrap (t8 + 1))))
    else none
  else
    some (.inr (.inl ()))

def api_Entry_6.e : ((List (List UInt8 × Int)) × List UInt8) → Option (Int) := fun (s0, f1c0) =>
  (iter api_Entry_6.l1e fuel ((s0, f1c0, (s0.length : Int), 0))).bind fun d => match d with
  | .inl _ =>
    some (-1)
  | .inr t4 =>
    some t4

theorem api_Entry_6.l1.le : ∀ s, Le (api_Entry_6.l1e s) (api_Entry_6.l1 s) := fun (s0, f1c0, t7, t8) => Le.ite (Le.ite (Le.bind (rolls_at_1.le (((s0.getD t8.toNat ([], 0)).1, (s0.getD t8.toNat ([], 0)).2), f1c0)) (fun r16 => Le.ite (Le.rfl) (Le.rfl))) (Le.rfl)) (Le.rfl)
theorem api_Entry_6.le : ∀ a, Le (api_Entry_6.e a) (api_Entry_6 a) := fun (s0, f1c0) => Le.bind (Le.loop api_Entry_6.l1.le) (fun d => match d with | .inl _ => Le.rfl | .inr t4 => Le.rfl)

def rolls_at.e : ((List (List UInt8 × Int)) × List UInt8) → Option (Int) := fun (l0, name1) =>
  (paths_Right name1).bind fun r6 =>
    if (!r6) = true then
      some (-1)
    else
      (api_Entry_6.e (l0, name1)).bind fun r10 =>
        some r10

theorem rolls_at.le : ∀ a, Le (rolls_at.e a) (rolls_at a) := fun (l0, name1) => Le.bind Le.rfl (fun r6 => Le.ite (Le.rfl) (Le.bind (api_Entry_6.le (l0, name1)) (fun r10 => Le.rfl)))

def api_Entry_8.e : Int → Option (List (List UInt8 × Int)) := fun n1 =>
  if decide (n1 < 0) = true then none else
  if decide (IntKind.i64.wrap (n1 - (IntKind.i64.wrap (0 - 0))) > 0) = true then
    if 0 ≤ (0 : Int) ∧ (0 : Int) ≤ 0 then
      if 0 ≤ IntKind.i64.wrap (n1 - (IntKind.i64.wrap (0 - 0))) ∧ IntKind.i64.wrap (n1 - (IntKind.i64.wrap (0 - 0))) ≤ 9223372036854775807 ∧ roomOk (IntKind.i64.wrap (n1 - (IntKind.i64.wrap (0 - 0)))).toNat 24 then
        if 0 ≤ (0 : Int) ∧ (0 : Int) ≤ ((List.replicate (IntKind.i64.wrap (n1 - (IntKind.i64.wrap (0 - 0)))).toNat (([], 0) : List UInt8 × Int)).length : Int) then
          some ((((List.replicate (IntKind.i64.wrap (n1 - (IntKind.i64.wrap (0 - 0)))).toNat (([], 0) : List UInt8 × Int)).drop 0).take (((0 : Int) - 0).toNat)))
        else none
      else none
    else none
  else
    some []

theorem api_Entry_8.le : ∀ a, Le (api_Entry_8.e a) (api_Entry_8 a) := fun n1 => Le.ite (Le.rfl) (Le.ite (Le.ite (Le.ite (Le.ite (Le.rfl) (Le.rfl)) (Le.rfl)) (Le.rfl)) (Le.rfl))

def api_Entry_9.l1e : ((List (List (List UInt8 × Int))) × Int × (List (List (List UInt8 × Int))) × Int × Int) → Option (((List (List (List UInt8 × Int))) × Int × (List (List (List UInt8 × Int))) × Int × Int) ⊕ ((List (List (List UInt8 × Int))) × Int)) := fun (slices0, size3, t9, t10, t11) =>
  if decide (t11 < t10) = true then
    if 0 ≤ t11 ∧ t11 < (t9.length : Int) then
      if decide (IntKind.i64.wrap (size3 + ((t9.getD t11.toNat []).length : Int)) < 0) = true then none else
      some (.inl ((slices0, IntKind.i64.wrap (size3 + ((t9.getD t11.toNat []).length : Int)), t9, t10, IntKind.i64.wrap (t11 + 1))))
    else none
  else
    some (.inr (((slices0, size3))))

def api_Entry_9.l2e : ((List (List UInt8 × Int)) × (List (List (List UInt8 × Int))) × Int × Int) → Option (((List (List UInt8 × Int)) × (List (List (List UInt8 × Int))) × Int × Int) ⊕ (List (List UInt8 × Int))) := fun (newslice6, t25, t26, t27) =>
  if decide (t27 < t26) = true then
    if 0 ≤ t27 ∧ t27 < (t25.length : Int) then
      if roomOk (newslice6.length + (t25.getD t27.toNat []).length) 24 then
        some (.inl ((newslice6 ++ (t25.getD t27.toNat []), t25, t26, IntKind.i64.wrap (t27 + 1))))
      else none
    else none
  else
    some (.inr newslice6)

def api_Entry_9.e : (List (List (List UInt8 × Int))) → Option (List (List UInt8 × Int)) := fun slices0 =>
  (iter api_Entry_9.l1e fuel ((slices0, 0, slices0, (slices0.length : Int), 0))).bind fun (slices0, size3) =>
    (api_Entry_8.e size3).bind fun r24 =>
      (iter api_Entry_9.l2e fuel ((r24, slices0, (slices0.length : Int), 0))).bind fun newslice6 =>
        some newslice6

theorem api_Entry_9.l1.le : ∀ s, Le (api_Entry_9.l1e s) (api_Entry_9.l1 s) := fun (slices0, size3, t9, t10, t11) => Le.ite (Le.ite (Le.ite (Le.rfl) (Le.rfl)) (Le.rfl)) (Le.rfl)
theorem api_Entry_9.l2.le : ∀ s, Le (api_Entry_9.l2e s) (api_Entry_9.l2 s) := fun (newslice6, t25, t26, t27) => Le.ite (Le.ite (Le.ite (Le.rfl) (Le.rfl)) (Le.rfl)) (Le.rfl)
theorem api_Entry_9.le : ∀ a, Le (api_Entry_9.e a) (api_Entry_9 a) := fun slices0 => Le.bind (Le.loop api_Entry_9.l1.le) (fun (slices0, size3) => Le.bind (api_Entry_8.le size3) (fun r24 => Le.bind (Le.loop api_Entry_9.l2.le) (fun newslice6 => Le.rfl)))

def rolls_Of.l1e : (List (List UInt8 × Int)) → Option ((List (List UInt8 × Int)) ⊕ (List (List UInt8 × Int))) := fun l0 =>
  if (Int.tmod (l0.length : Int) 8 != 0) = true then
    if roomOk (l0.length + (([([], 0)] : List (List UInt8 × Int))).length) 24 then
      some (.inl (l0 ++ (([([], 0)] : List (List UInt8 × Int)))))
    else none
  else
    some (.inr l0)

def rolls_Of.e : (List (List UInt8 × Int)) → Option (List (List UInt8 × Int)) := fun l0 =>
  (api_Entry_4.e l0).bind fun r4 =>
    (iter rolls_Of.l1e fuel r4).bind fun l0 =>
      some l0

theorem rolls_Of.l1.le : ∀ s, Le (rolls_Of.l1e s) (rolls_Of.l1 s) := fun l0 => Le.ite (Le.ite (Le.rfl) (Le.rfl)) (Le.rfl)
theorem rolls_Of.le : ∀ a, Le (rolls_Of.e a) (rolls_Of a) := fun l0 => Le.bind (api_Entry_4.le l0) (fun r4 => Le.bind (Le.loop rolls_Of.l1.le) (fun l0 => Le.rfl))

def rolls_Add.e : ((List (List UInt8 × Int)) × List UInt8 × Int) → Option ((List (List UInt8 × Int)) × Int) := fun (l0, name1, node2) =>
  ((
    (rolls_Right.e l0).bind fun r12 =>
      if (!r12) = false then
        if decide (node2 < 1) = false then
          some (((l0, name1, node2, decide (node2 > 65535))))
        else
          some (((l0, name1, node2, true)))
      else
        some (((l0, name1, node2, true)))) : Option ((List (List UInt8 × Int)) × List UInt8 × Int × Bool)).bind fun (l0, name1, node2, t10) =>
    if t10 = true then
      some (((([] : List (List UInt8 × Int)), 1)))
    else
      (paths_Right name1).bind fun r24 =>
        if (!r24) = true then
          some (((([] : List (List UInt8 × Int)), 4)))
        else
          (rolls_at.e (l0, name1)).bind fun r29 =>
            if decide (r29 ≥ 0) = true then
              some (((([] : List (List UInt8 × Int)), 6)))
            else
              (rolls_Live.e l0).bind fun r33 =>
                if decide ((r33.length : Int) ≥ 160) = true then
                  some (((([] : List (List UInt8 × Int)), 12)))
                else
                  (api_Entry_3.e l0).bind fun r40 =>
                    if decide (r40 ≥ 0) = true then
                      (api_Entry_4.e l0).bind fun r44 =>
                        if 0 ≤ r40 ∧ r40 < (r44.length : Int) then
                          some (((r44.set r40.toNat ((name1, node2)), 0)))
                        else none
                    else
                      (api_Entry_9.e ([l0, ([(name1, node2)] : List (List UInt8 × Int))] : List (List (List UInt8 × Int)))).bind fun r54 =>
                        (rolls_Of.e r54).bind fun r55 =>
                          some (((r55, 0)))

theorem rolls_Add.le : ∀ a, Le (rolls_Add.e a) (rolls_Add a) := fun (l0, name1, node2) => Le.bind (Le.bind (rolls_Right.le l0) (fun r12 => Le.ite (Le.ite (Le.rfl) (Le.rfl)) (Le.rfl))) (fun (l0, name1, node2, t10) => Le.ite (Le.rfl) (Le.bind Le.rfl (fun r24 => Le.ite (Le.rfl) (Le.bind (rolls_at.le (l0, name1)) (fun r29 => Le.ite (Le.rfl) (Le.bind (rolls_Live.le l0) (fun r33 => Le.ite (Le.rfl) (Le.bind (api_Entry_3.le l0) (fun r40 => Le.ite (Le.bind (api_Entry_4.le l0) (fun r44 => Le.ite (Le.rfl) (Le.rfl))) (Le.bind (api_Entry_9.le ([l0, ([(name1, node2)] : List (List UInt8 × Int))] : List (List (List UInt8 × Int)))) (fun r54 => Le.bind (rolls_Of.le r54) (fun r55 => Le.rfl))))))))))))

def rolls_Drop.e : ((List (List UInt8 × Int)) × List UInt8) → Option ((List (List UInt8 × Int)) × Int × Int) := fun (l0, name1) =>
  (rolls_Right.e l0).bind fun r10 =>
    if (!r10) = true then
      some (((([] : List (List UInt8 × Int)), 0, 1)))
    else
      (rolls_at.e (l0, name1)).bind fun r14 =>
        if decide (r14 < 0) = true then
          some (((([] : List (List UInt8 × Int)), 0, 5)))
        else
          (api_Entry_4.e l0).bind fun r18 =>
            if 0 ≤ r14 ∧ r14 < (r18.length : Int) then
              if 0 ≤ r14 ∧ r14 < (l0.length : Int) then
                some (((r18.set r14.toNat (([], 0)), (l0.getD r14.toNat ([], 0)).2, 0)))
              else none
            else none

theorem rolls_Drop.le : ∀ a, Le (rolls_Drop.e a) (rolls_Drop a) := fun (l0, name1) => Le.bind (rolls_Right.le l0) (fun r10 => Le.ite (Le.rfl) (Le.bind (rolls_at.le (l0, name1)) (fun r14 => Le.ite (Le.rfl) (Le.bind (api_Entry_4.le l0) (fun r18 => Le.ite (Le.ite (Le.rfl) (Le.rfl)) (Le.rfl))))))

def wainwrightlaw07_lives.e : Unit → Option (Bool) := fun _ =>
  (rolls_Add.e (([] : List (List UInt8 × Int)), ([97] : List UInt8), 2)).bind fun (r11, r11_2) =>
    (rolls_Add.e (r11, ([98] : List UInt8), 3)).bind fun (r16, r16_2) =>
      (rolls_Drop.e (r16, ([97] : List UInt8))).bind fun (r21, r21_2, r21_3) =>
        (rolls_Add.e (r21, ([99] : List UInt8), 4)).bind fun (r27, r27_2) =>
          if (r11_2 == 0) = true then
            if (r16_2 == 0) = true then
              if (r21_3 == 0) = true then
                if (r27_2 == 0) = true then
                  if (r21_2 == 2) = true then
                    if ((r27.length : Int) == 8) = true then
                      if 0 ≤ (0 : Int) ∧ (0 : Int) < (r27.length : Int) then
                        if (((r27.getD 0 ([], 0)).1) == (([99] : List UInt8))) = true then
                          if 0 ≤ (1 : Int) ∧ (1 : Int) < (r27.length : Int) then
                            if (((r27.getD 1 ([], 0)).1) == (([98] : List UInt8))) = true then
                              (rolls_Right.e r27).bind fun r69 =>
                                some r69
                            else
                              some false
                          else none
                        else
                          some false
                      else none
                    else
                      some false
                  else
                    some false
                else
                  some false
              else
                some false
            else
              some false
          else
            some false

theorem wainwrightlaw07_lives.le : ∀ a, Le (wainwrightlaw07_lives.e a) (wainwrightlaw07_lives a) := fun _ => Le.bind (rolls_Add.le (([] : List (List UInt8 × Int)), ([97] : List UInt8), 2)) (fun (r11, r11_2) => Le.bind (rolls_Add.le (r11, ([98] : List UInt8), 3)) (fun (r16, r16_2) => Le.bind (rolls_Drop.le (r16, ([97] : List UInt8))) (fun (r21, r21_2, r21_3) => Le.bind (rolls_Add.le (r21, ([99] : List UInt8), 4)) (fun (r27, r27_2) => Le.ite (Le.ite (Le.ite (Le.ite (Le.ite (Le.ite (Le.ite (Le.ite (Le.ite (Le.ite (Le.bind (rolls_Right.le r27) (fun r69 => Le.rfl)) (Le.rfl)) (Le.rfl)) (Le.rfl)) (Le.rfl)) (Le.rfl)) (Le.rfl)) (Le.rfl)) (Le.rfl)) (Le.rfl)) (Le.rfl)))))

end Go.Proofs.YtnbhmifidhoblaaDoor.Abs
