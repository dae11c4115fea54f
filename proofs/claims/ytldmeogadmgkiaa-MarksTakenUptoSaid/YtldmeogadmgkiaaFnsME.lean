/- The same functions, each loop with so many rounds at most: printed by gen2.py (own work). -/
import Derived.Test.YtldmeogadmgkiaaFnsM
import Derived.Test.YtldmeogadmgkiaaAbsEval
namespace Go.Proofs.Ytldmeogadmgkiaa.Abs
open Go Go.Proofs
set_option maxRecDepth 100000
set_option linter.unusedVariables false

def marks_there.e : (List UInt8 × Int) → Option (Bool) := fun (m0, i1) =>
  if decide (i1 ≥ 0) = true then
    some ((decide (i1 < IntKind.i64.wrap (8 * (m0.length : Int)))))
  else
    some false

theorem marks_there.le : ∀ a, Le (marks_there.e a) (marks_there a) := fun (m0, i1) => Le.ite (Le.rfl) (Le.rfl)

def marks_Is.e : (List UInt8 × Int) → Option (Bool) := fun (m0, i1) =>
  (marks_there.e (m0, i1)).bind fun r7 =>
    if (!r7) = false then
      if 0 ≤ IntKind.i64.wrap (Int.tdiv i1 8) ∧ IntKind.i64.wrap (Int.tdiv i1 8) < (m0.length : Int) then
        if 0 ≤ Int.tmod i1 8 then
          some (((bitsOp .and .u8 (Int.fdiv ((m0.getD ((IntKind.i64.wrap (Int.tdiv i1 8)).toNat) 0).toNat : Int) (2 ^ (min (Int.tmod i1 8).toNat 8))) 1 == 1)))
        else none
      else none
    else
      some true

theorem marks_Is.le : ∀ a, Le (marks_Is.e a) (marks_Is a) := fun (m0, i1) => Le.bind (marks_there.le (m0, i1)) (fun r7 => Le.ite (Le.ite (Le.ite (Le.rfl) (Le.rfl)) (Le.rfl)) (Le.rfl))

def marks_Run.l1e : (List UInt8 × Int × Int × Int × Int) → Option ((List UInt8 × Int × Int × Int × Int) ⊕ (Unit ⊕ (Int × Bool))) := fun (m0, n2, length3, row10, i11) =>
  if decide (i11 < n2) = true then
    ((
      (marks_Is.e (m0, i11)).bind fun r30 =>
        if r30 = true then
          some (((m0, n2, length3, 0, i11)))
        else
          some (((m0, n2, length3, IntKind.i64.wrap (row10 + 1), i11)))) : Option (List UInt8 × Int × Int × Int × Int)).bind fun (m0, n2, length3, row10, i11) =>
      if (row10 == length3) = true then
        some (.inr (.inr (((IntKind.i64.wrap ((IntKind.i64.wrap (i11 + 1)) - length3), true)))))
      else
        some (.inl ((m0, n2, length3, row10, IntKind.i64.wrap (i11 + 1))))
  else
    some (.inr (.inl ()))

def marks_Run.e : (List UInt8 × Int × Int × Int) → Option (Int × Bool) := fun (m0, from1, n2, length3) =>
  if decide (length3 < 1) = true then
    some (((0, false)))
  else
    (iter marks_Run.l1e fuel ((m0, (if IntKind.i64.wrap (8 * (m0.length : Int)) < n2 then IntKind.i64.wrap (8 * (m0.length : Int)) else n2), length3, 0, (if 0 > from1 then 0 else from1)))).bind fun d => match d with
    | .inl _ =>
      some (((0, false)))
    | .inr ((t8, t9)) =>
      some (((t8, t9)))

theorem marks_Run.l1.le : ∀ s, Le (marks_Run.l1e s) (marks_Run.l1 s) := fun (m0, n2, length3, row10, i11) => Le.ite (Le.bind (Le.bind (marks_Is.le (m0, i11)) (fun r30 => Le.ite (Le.rfl) (Le.rfl))) (fun (m0, n2, length3, row10, i11) => Le.ite (Le.rfl) (Le.rfl))) (Le.rfl)
theorem marks_Run.le : ∀ a, Le (marks_Run.e a) (marks_Run a) := fun (m0, from1, n2, length3) => Le.ite (Le.rfl) (Le.bind (Le.loop marks_Run.l1.le) (fun d => match d with | .inl _ => Le.rfl | .inr ((t8, t9)) => Le.rfl))

def marks_First.e : (List UInt8 × Int × Int) → Option (Int × Bool) := fun (m0, from1, n2) =>
  (marks_Run.e (m0, from1, n2, 1)).bind fun (r11, r11_2) =>
    some (((r11, r11_2)))

theorem marks_First.le : ∀ a, Le (marks_First.e a) (marks_First a) := fun (m0, from1, n2) => Le.bind (marks_Run.le (m0, from1, n2, 1)) (fun (r11, r11_2) => Le.rfl)

def marks_Longest.l1e : (List UInt8 × Int × Int × Int × Int × Int) → Option ((List UInt8 × Int × Int × Int × Int × Int) ⊕ (Int × Int)) := fun (m0, at6, best7, row8, t15, t16) =>
  if decide (t16 < t15) = true then
    ((
      (marks_Is.e (m0, t16)).bind fun r23 =>
        if r23 = true then
          some (((m0, at6, best7, 0, t16, t15, t16)))
        else
          some (((m0, at6, best7, IntKind.i64.wrap (row8 + 1), t16, t15, t16)))) : Option (List UInt8 × Int × Int × Int × Int × Int × Int)).bind fun (m0, at6, best7, row8, i9, t15, t16) =>
      if decide (row8 > best7) = true then
        some (.inl ((m0, IntKind.i64.wrap ((IntKind.i64.wrap (i9 + 1)) - row8), row8, row8, t15, IntKind.i64.wrap (t16 + 1))))
      else
        some (.inl ((m0, at6, best7, row8, t15, IntKind.i64.wrap (t16 + 1))))
  else
    some (.inr (((at6, best7))))

def marks_Longest.e : (List UInt8 × Int) → Option (Int × Int) := fun (m0, n1) =>
  (iter marks_Longest.l1e fuel ((m0, 0, 0, 0, (if IntKind.i64.wrap (8 * (m0.length : Int)) < (if 0 > n1 then 0 else n1) then IntKind.i64.wrap (8 * (m0.length : Int)) else (if 0 > n1 then 0 else n1)), 0))).bind fun (at6, best7) =>
    some (((at6, best7)))

theorem marks_Longest.l1.le : ∀ s, Le (marks_Longest.l1e s) (marks_Longest.l1 s) := fun (m0, at6, best7, row8, t15, t16) => Le.ite (Le.bind (Le.bind (marks_Is.le (m0, t16)) (fun r23 => Le.ite (Le.rfl) (Le.rfl))) (fun (m0, at6, best7, row8, i9, t15, t16) => Le.ite (Le.rfl) (Le.rfl))) (Le.rfl)
theorem marks_Longest.le : ∀ a, Le (marks_Longest.e a) (marks_Longest a) := fun (m0, n1) => Le.bind (Le.loop marks_Longest.l1.le) (fun (at6, best7) => Le.rfl)

def bits_OnesCount8.e : Int → Option (Int) := fun x0 =>
  if 0 ≤ x0 ∧ x0 < ((([0, 1, 1, 2, 1, 2, 2, 3, 1, 2, 2, 3, 2, 3, 3, 4, 1, 2, 2, 3, 2, 3, 3, 4, 2, 3, 3, 4, 3, 4, 4, 5, 1, 2, 2, 3, 2, 3, 3, 4, 2, 3, 3, 4, 3, 4, 4, 5, 2, 3, 3, 4, 3, 4, 4, 5, 3, 4, 4, 5, 4, 5, 5, 6, 1, 2, 2, 3, 2, 3, 3, 4, 2, 3, 3, 4, 3, 4, 4, 5, 2, 3, 3, 4, 3, 4, 4, 5, 3, 4, 4, 5, 4, 5, 5, 6, 2, 3, 3, 4, 3, 4, 4, 5, 3, 4, 4, 5, 4, 5, 5, 6, 3, 4, 4, 5, 4, 5, 5, 6, 4, 5, 5, 6, 5, 6, 6, 7, 1, 2, 2, 3, 2, 3, 3, 4, 2, 3, 3, 4, 3, 4, 4, 5, 2, 3, 3, 4, 3, 4, 4, 5, 3, 4, 4, 5, 4, 5, 5, 6, 2, 3, 3, 4, 3, 4, 4, 5, 3, 4, 4, 5, 4, 5, 5, 6, 3, 4, 4, 5, 4, 5, 5, 6, 4, 5, 5, 6, 5, 6, 6, 7, 2, 3, 3, 4, 3, 4, 4, 5, 3, 4, 4, 5, 4, 5, 5, 6, 3, 4, 4, 5, 4, 5, 5, 6, 4, 5, 5, 6, 5, 6, 6, 7, 3, 4, 4, 5, 4, 5, 5, 6, 4, 5, 5, 6, 5, 6, 6, 7, 4, 5, 5, 6, 5, 6, 6, 7, 5, 6, 6, 7, 6, 7, 7, 8] : List UInt8)).length : Int) then
    some ((IntKind.i64.wrap ((((([0, 1, 1, 2, 1, 2, 2, 3, 1, 2, 2, 3, 2, 3, 3, 4, 1, 2, 2, 3, 2, 3, 3, 4, 2, 3, 3, 4, 3, 4, 4, 5, 1, 2, 2, 3, 2, 3, 3, 4, 2, 3, 3, 4, 3, 4, 4, 5, 2, 3, 3, 4, 3, 4, 4, 5, 3, 4, 4, 5, 4, 5, 5, 6, 1, 2, 2, 3, 2, 3, 3, 4, 2, 3, 3, 4, 3, 4, 4, 5, 2, 3, 3, 4, 3, 4, 4, 5, 3, 4, 4, 5, 4, 5, 5, 6, 2, 3, 3, 4, 3, 4, 4, 5, 3, 4, 4, 5, 4, 5, 5, 6, 3, 4, 4, 5, 4, 5, 5, 6, 4, 5, 5, 6, 5, 6, 6, 7, 1, 2, 2, 3, 2, 3, 3, 4, 2, 3, 3, 4, 3, 4, 4, 5, 2, 3, 3, 4, 3, 4, 4, 5, 3, 4, 4, 5, 4, 5, 5, 6, 2, 3, 3, 4, 3, 4, 4, 5, 3, 4, 4, 5, 4, 5, 5, 6, 3, 4, 4, 5, 4, 5, 5, 6, 4, 5, 5, 6, 5, 6, 6, 7, 2, 3, 3, 4, 3, 4, 4, 5, 3, 4, 4, 5, 4, 5, 5, 6, 3, 4, 4, 5, 4, 5, 5, 6, 4, 5, 5, 6, 5, 6, 6, 7, 3, 4, 4, 5, 4, 5, 5, 6, 4, 5, 5, 6, 5, 6, 6, 7, 4, 5, 5, 6, 5, 6, 6, 7, 5, 6, 6, 7, 6, 7, 7, 8] : List UInt8)).getD x0.toNat 0).toNat : Int))))
  else none

theorem bits_OnesCount8.le : ∀ a, Le (bits_OnesCount8.e a) (bits_OnesCount8 a) := fun x0 => Le.ite (Le.rfl) (Le.rfl)

def marks_Count.l1e : (List UInt8 × Int × Int × Int × List Int × Int × Int) → Option ((List UInt8 × Int × Int × Int × List Int × Int × Int) ⊕ (List UInt8 × Int × Int × Int)) := fun (m0, n1, whole5, c6, t27, t28, t29) =>
  if decide (t29 < t28) = true then
    if 0 ≤ t29 ∧ t29 < (t27.length : Int) then
      (bits_OnesCount8.e (t27.getD t29.toNat 0)).bind fun r35 =>
        some (.inl ((m0, n1, whole5, IntKind.i64.wrap (c6 + r35), t27, t28, IntKind.i64.wrap (t29 + 1))))
    else none
  else
    some (.inr (((m0, n1, whole5, c6))))

def marks_Count.e : (List UInt8 × Int) → Option (Int) := fun (m0, n1) =>
  if 0 ≤ (if (m0.length : Int) < IntKind.i64.wrap (Int.tdiv (if 100000 < (if 0 > n1 then 0 else n1) then 100000 else (if 0 > n1 then 0 else n1)) 8) then (m0.length : Int) else IntKind.i64.wrap (Int.tdiv (if 100000 < (if 0 > n1 then 0 else n1) then 100000 else (if 0 > n1 then 0 else n1)) 8)) ∧ (if (m0.length : Int) < IntKind.i64.wrap (Int.tdiv (if 100000 < (if 0 > n1 then 0 else n1) then 100000 else (if 0 > n1 then 0 else n1)) 8) then (m0.length : Int) else IntKind.i64.wrap (Int.tdiv (if 100000 < (if 0 > n1 then 0 else n1) then 100000 else (if 0 > n1 then 0 else n1)) 8)) ≤ (m0.length : Int) then
    (iter marks_Count.l1e fuel ((m0, (if 100000 < (if 0 > n1 then 0 else n1) then 100000 else (if 0 > n1 then 0 else n1)), (if (m0.length : Int) < IntKind.i64.wrap (Int.tdiv (if 100000 < (if 0 > n1 then 0 else n1) then 100000 else (if 0 > n1 then 0 else n1)) 8) then (m0.length : Int) else IntKind.i64.wrap (Int.tdiv (if 100000 < (if 0 > n1 then 0 else n1) then 100000 else (if 0 > n1 then 0 else n1)) 8)), (if 0 > IntKind.i64.wrap ((if 100000 < (if 0 > n1 then 0 else n1) then 100000 else (if 0 > n1 then 0 else n1)) - (IntKind.i64.wrap (8 * (m0.length : Int)))) then 0 else IntKind.i64.wrap ((if 100000 < (if 0 > n1 then 0 else n1) then 100000 else (if 0 > n1 then 0 else n1)) - (IntKind.i64.wrap (8 * (m0.length : Int))))), (m0.take ((if (m0.length : Int) < IntKind.i64.wrap (Int.tdiv (if 100000 < (if 0 > n1 then 0 else n1) then 100000 else (if 0 > n1 then 0 else n1)) 8) then (m0.length : Int) else IntKind.i64.wrap (Int.tdiv (if 100000 < (if 0 > n1 then 0 else n1) then 100000 else (if 0 > n1 then 0 else n1)) 8))).toNat).map fun b => (b.toNat : Int), (((m0.take ((if (m0.length : Int) < IntKind.i64.wrap (Int.tdiv (if 100000 < (if 0 > n1 then 0 else n1) then 100000 else (if 0 > n1 then 0 else n1)) 8) then (m0.length : Int) else IntKind.i64.wrap (Int.tdiv (if 100000 < (if 0 > n1 then 0 else n1) then 100000 else (if 0 > n1 then 0 else n1)) 8))).toNat).map fun b => (b.toNat : Int)).length : Int), 0))).bind fun (m0, n1, whole5, c6) =>
      ((
        if decide (whole5 < (m0.length : Int)) = true then
          some (((m0, whole5, c6, IntKind.i64.wrap (n1 - (IntKind.i64.wrap (8 * whole5))), decide (IntKind.i64.wrap (n1 - (IntKind.i64.wrap (8 * whole5))) > 0))))
        else
          some (((m0, whole5, c6, IntKind.i64.wrap (n1 - (IntKind.i64.wrap (8 * whole5))), false)))) : Option (List UInt8 × Int × Int × Int × Bool)).bind fun (m0, whole5, c6, rest9, t49) =>
        if t49 = true then
          if 0 ≤ whole5 ∧ whole5 < (m0.length : Int) then
            if 0 ≤ rest9 then
              (bits_OnesCount8.e (bitsOp .and .u8 ((m0.getD whole5.toNat 0).toNat : Int) (IntKind.u8.wrap ((IntKind.u8.wrap (1 * 2 ^ (min rest9.toNat 8))) - 1)))).bind fun r58 =>
                some ((IntKind.i64.wrap (c6 + r58)))
            else none
          else none
        else
          some c6
  else none

theorem marks_Count.l1.le : ∀ s, Le (marks_Count.l1e s) (marks_Count.l1 s) := fun (m0, n1, whole5, c6, t27, t28, t29) => Le.ite (Le.ite (Le.bind (bits_OnesCount8.le (t27.getD t29.toNat 0)) (fun r35 => Le.rfl)) (Le.rfl)) (Le.rfl)
theorem marks_Count.le : ∀ a, Le (marks_Count.e a) (marks_Count a) := fun (m0, n1) => Le.ite (Le.bind (Le.loop marks_Count.l1.le) (fun (m0, n1, whole5, c6) => Le.bind (Le.ite (Le.rfl) (Le.rfl)) (fun (m0, whole5, c6, rest9, t49) => Le.ite (Le.ite (Le.ite (Le.bind (bits_OnesCount8.le (bitsOp .and .u8 ((m0.getD whole5.toNat 0).toNat : Int) (IntKind.u8.wrap ((IntKind.u8.wrap (1 * 2 ^ (min rest9.toNat 8))) - 1)))) (fun r58 => Le.rfl)) (Le.rfl)) (Le.rfl)) (Le.rfl)))) (Le.rfl)

def wainwrightlaw03_lives.e : Unit → Option (Bool) := fun _ =>
  (marks_First.e (([5] : List UInt8), 0, 8)).bind fun (r8, r8_2) =>
    (marks_Run.e (([5] : List UInt8), 0, 8, 2)).bind fun (r12, r12_2) =>
      (marks_Longest.e (([5] : List UInt8), 8)).bind fun (r16, r16_2) =>
        (marks_Is.e (([5] : List UInt8), 2)).bind fun r19 =>
          if r19 = true then
            (marks_Is.e (([5] : List UInt8), 1)).bind fun r21 =>
              if (!r21) = true then
                if r8_2 = true then
                  if (r8 == 1) = true then
                    if r12_2 = true then
                      if (r12 == 3) = true then
                        if (r16 == 3) = true then
                          if (r16_2 == 5) = true then
                            (marks_Count.e (([5] : List UInt8), 8)).bind fun r47 =>
                              some (((r47 == 2)))
                          else
                            some false
                        else
                          some false
                      else
                        some false
                    else
                      some false
                  else
                    some false
                else
                  some false
              else
                some false
          else
            some false

theorem wainwrightlaw03_lives.le : ∀ a, Le (wainwrightlaw03_lives.e a) (wainwrightlaw03_lives a) := fun _ => Le.bind (marks_First.le (([5] : List UInt8), 0, 8)) (fun (r8, r8_2) => Le.bind (marks_Run.le (([5] : List UInt8), 0, 8, 2)) (fun (r12, r12_2) => Le.bind (marks_Longest.le (([5] : List UInt8), 8)) (fun (r16, r16_2) => Le.bind (marks_Is.le (([5] : List UInt8), 2)) (fun r19 => Le.ite (Le.bind (marks_Is.le (([5] : List UInt8), 1)) (fun r21 => Le.ite (Le.ite (Le.ite (Le.ite (Le.ite (Le.ite (Le.ite (Le.bind (marks_Count.le (([5] : List UInt8), 8)) (fun r47 => Le.rfl)) (Le.rfl)) (Le.rfl)) (Le.rfl)) (Le.rfl)) (Le.rfl)) (Le.rfl)) (Le.rfl))) (Le.rfl)))))

end Go.Proofs.Ytldmeogadmgkiaa.Abs
