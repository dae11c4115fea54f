/- The same functions, each loop with so many rounds at most: printed by gen2.py (own work). -/
import Derived.Test.YtlbammfnkphajaaGreatDoorCh2
import Derived.Test.YtlbammfnkphajaaGreatDoorAbsEval
namespace Go.Proofs.YtlbammfnkphajaaGreatDoor.Abs
open Go Go.Proofs
open _root_.Go.IntKind (i64 u8 u32 u64)
set_option maxRecDepth 100000
set_option linter.unusedVariables false

def bits_Mul64.e : (Int × Int) → Option (Int × Int) := fun (x0, y1) =>
 some (((u64.wrap ((u64.wrap ((u64.wrap ((Int.fdiv x0 (2 ^ 32)) * (Int.fdiv y1 (2 ^ 32)))) + (Int.fdiv (u64.wrap ((u64.wrap ((Int.fdiv x0 (2 ^ 32)) * (bitsOp .and .u64 y1 4294967295))) + (Int.fdiv (u64.wrap ((bitsOp .and .u64 x0 4294967295) * (bitsOp .and .u64 y1 4294967295))) (2 ^ 32)))) (2 ^ 32)))) + (Int.fdiv (u64.wrap ((bitsOp .and .u64 (u64.wrap ((u64.wrap ((Int.fdiv x0 (2 ^ 32)) * (bitsOp .and .u64 y1 4294967295))) + (Int.fdiv (u64.wrap ((bitsOp .and .u64 x0 4294967295) * (bitsOp .and .u64 y1 4294967295))) (2 ^ 32)))) 4294967295) + (u64.wrap ((bitsOp .and .u64 x0 4294967295) * (Int.fdiv y1 (2 ^ 32)))))) (2 ^ 32))), u64.wrap (x0 * y1))))

theorem bits_Mul64.le : ∀ a, Le (bits_Mul64.e a) (bits_Mul64 a) := fun (x0, y1) => by first | exact Le.rfl | (unfold bits_Mul64.e bits_Mul64; exact Le.rfl)

def bits_Mul.e : (Int × Int) → Option (Int × Int) := fun (x0, y1) =>
 (bits_Mul64.e (x0, y1)).bind fun (r25, r25_2) =>
  some (((r25, r25_2)))

theorem bits_Mul.le : ∀ a, Le (bits_Mul.e a) (bits_Mul a) := fun (x0, y1) => by first | exact Le.bind (bits_Mul64.le (x0, y1)) (fun (r25, r25_2) => Le.rfl) | (unfold bits_Mul.e bits_Mul; exact Le.bind (bits_Mul64.le (x0, y1)) (fun (r25, r25_2) => Le.rfl))

def slices_Repeat_int_int.l1e : (tI × Int) → Option ((tI × Int) ⊕ tI) := fun (newslice7, n8) =>
 if decide (n8 < (newslice7.length : Int)) = true then
  if 0 ≤ n8 ∧ n8 ≤ (newslice7.length : Int) then
   if 0 ≤ n8 ∧ n8 ≤ (newslice7.length : Int) then
    some (.inl ((copyRow newslice7 (((newslice7).drop 0).take ((n8 - 0).toNat)) n8.toNat (((newslice7.length : Int) - n8).toNat), i64.wrap (n8 + ((min (((newslice7.length : Int) - n8).toNat) ((((newslice7).drop 0).take ((n8 - 0).toNat)).length) : Nat) : Int)))))
   else none
  else none
 else
  some (.inr newslice7)

def slices_Repeat_int_int.e : (tI × Int) → Option tI := fun (x0, count1) =>
 if decide (count1 < 0) = true then none else
 (bits_Mul.e (u64.wrap ((x0.length : Int)), u64.wrap (count1))).bind fun (r18, r18_2) =>
  if decide (r18 > 0) = false then
   if decide (r18_2 > 9223372036854775807) = true then none else
   if 0 ≤ i64.wrap (r18_2) ∧ i64.wrap (r18_2) ≤ i64.wrap (r18_2) ∧ i64.wrap (r18_2) * (8 : Nat) ≤ 140737488355328 ∧ i64.wrap (r18_2) ≤ 9223372036854775807 then
    (iter slices_Repeat_int_int.l1e fuel ((copyRow (List.replicate (i64.wrap (r18_2)).toNat (0 : Int)) x0 0 ((List.replicate (i64.wrap (r18_2)).toNat (0 : Int)).length), ((min ((List.replicate (i64.wrap (r18_2)).toNat (0 : Int)).length) x0.length : Nat) : Int)))).bind fun newslice7 =>
     some newslice7
   else none
  else none

theorem slices_Repeat_int_int.l1.le : ∀ s, Le (slices_Repeat_int_int.l1e s) (slices_Repeat_int_int.l1 s) := fun (newslice7, n8) => by first | exact Le.ite (Le.ite (Le.ite (Le.rfl) (Le.rfl)) (Le.rfl)) (Le.rfl) | (unfold slices_Repeat_int_int.l1e slices_Repeat_int_int.l1; exact Le.ite (Le.ite (Le.ite (Le.rfl) (Le.rfl)) (Le.rfl)) (Le.rfl))
theorem slices_Repeat_int_int.le : ∀ a, Le (slices_Repeat_int_int.e a) (slices_Repeat_int_int a) := fun (x0, count1) => by first | exact Le.ite (Le.rfl) (Le.bind (bits_Mul.le (u64.wrap ((x0.length : Int)), u64.wrap (count1))) (fun (r18, r18_2) => Le.ite (Le.ite (Le.rfl) (Le.ite (Le.bind (Le.loop slices_Repeat_int_int.l1.le) (fun newslice7 => Le.rfl)) (Le.rfl))) (Le.rfl))) | (unfold slices_Repeat_int_int.e slices_Repeat_int_int; exact Le.ite (Le.rfl) (Le.bind (bits_Mul.le (u64.wrap ((x0.length : Int)), u64.wrap (count1))) (fun (r18, r18_2) => Le.ite (Le.ite (Le.rfl) (Le.ite (Le.bind (Le.loop slices_Repeat_int_int.l1.le) (fun newslice7 => Le.rfl)) (Le.rfl))) (Le.rfl))))

end Go.Proofs.YtlbammfnkphajaaGreatDoor.Abs
