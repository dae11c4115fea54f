/- The same functions, each loop with so many rounds at most: printed by gen2.py (own work). -/
import Derived.Test.YtiodpeekbeahlaaGreatDoorStp2
import Derived.Test.YtiodpeekbeahlaaGreatDoorAbsEval
namespace Go.Proofs.YtiodpeekbeahlaaGreatDoor.Abs
open Go Go.Proofs
set_option maxRecDepth 100000
set_option linter.unusedVariables false

def mould_fits.e : (List UInt8 × Int) → Option (Int) := fun (s0, n1) =>
  ((
    if decide (n1 < 0) = false then
      some (((s0, n1, decide (n1 > 1000))))
    else
      some (((s0, n1, true)))) : Option (List UInt8 × Int × Bool)).bind fun (s0, n1, t5) =>
    if t5 = true then
      some 1
    else
      if decide ((s0.length : Int) > n1) = true then
        some 3
      else
        some 0

theorem mould_fits.le : ∀ a, Le (mould_fits.e a) (mould_fits a) := fun (s0, n1) => by first | exact Le.bind (Le.ite (Le.rfl) (Le.rfl)) (fun (s0, n1, t5) => Le.ite (Le.rfl) (Le.ite (Le.rfl) (Le.rfl))) | (unfold mould_fits.e mould_fits; exact Le.bind (Le.ite (Le.rfl) (Le.rfl)) (fun (s0, n1, t5) => Le.ite (Le.rfl) (Le.ite (Le.rfl) (Le.rfl))))

def mould_Pad.e : (List UInt8 × Int) → Option (List UInt8 × Int) := fun (s0, n1) =>
  (mould_fits.e (s0, n1)).bind fun r9 =>
    if (r9 != 0) = true then
      some ((([], r9)))
    else
      (strings_Repeat (([0] : List UInt8), IntKind.i64.wrap (n1 - (s0.length : Int)))).bind fun r18 =>
        if s0.length + r18.length ≤ 9223372036854775807 then
          some (((s0 ++ r18, 0)))
        else none

theorem mould_Pad.le : ∀ a, Le (mould_Pad.e a) (mould_Pad a) := fun (s0, n1) => by first | exact Le.bind (mould_fits.le (s0, n1)) (fun r9 => Le.ite (Le.rfl) (Le.bind Le.rfl (fun r18 => Le.ite (Le.rfl) (Le.rfl)))) | (unfold mould_Pad.e mould_Pad; exact Le.bind (mould_fits.le (s0, n1)) (fun r9 => Le.ite (Le.rfl) (Le.bind Le.rfl (fun r18 => Le.ite (Le.rfl) (Le.rfl)))))

def slab_whole.e : List UInt8 → Option (List UInt8) := fun s0 =>
  if 0 ≤ (if 128 < (s0.length : Int) then 128 else (s0.length : Int)) ∧ (if 128 < (s0.length : Int) then 128 else (s0.length : Int)) ≤ (s0.length : Int) then
    (mould_Pad.e (s0.take ((if 128 < (s0.length : Int) then 128 else (s0.length : Int))).toNat, 128)).bind fun (r11, r11_2) =>
      some r11
  else none

theorem slab_whole.le : ∀ a, Le (slab_whole.e a) (slab_whole a) := fun s0 => by first | exact Le.ite (Le.bind (mould_Pad.le (s0.take ((if 128 < (s0.length : Int) then 128 else (s0.length : Int))).toNat, 128)) (fun (r11, r11_2) => Le.rfl)) (Le.rfl) | (unfold slab_whole.e slab_whole; exact Le.ite (Le.bind (mould_Pad.le (s0.take ((if 128 < (s0.length : Int) then 128 else (s0.length : Int))).toNat, 128)) (fun (r11, r11_2) => Le.rfl)) (Le.rfl))

def slab_Load.l1e : (((Int × Int) × List (List UInt8) × List (Int × List UInt8)) × List (List UInt8) × Int × Int) → Option ((((Int × Int) × List (List UInt8) × List (Int × List UInt8)) × List (List UInt8) × Int × Int) ⊕ ((Int × Int) × List (List UInt8) × List (Int × List UInt8))) := fun (((s3c, s3d), o1, o2), t13, t14, t15) =>
  if decide (t15 < t14) = true then
    if 0 ≤ t15 ∧ t15 < (t13.length : Int) then
      (slab_whole.e (t13.getD t15.toNat [])).bind fun r25 =>
        if roomOk (o1.length + (([r25] : List (List UInt8))).length) 16 then
          some (.inl ((((s3c, s3d), o1 ++ (([r25] : List (List UInt8))), o2), t13, t14, IntKind.i64.wrap (t15 + 1))))
        else none
    else none
  else
    some (.inr ((((s3c, s3d), o1, o2))))

def slab_Load.e : List (List UInt8) → Option ((Int × Int) × List (List UInt8) × List (Int × List UInt8)) := fun image0 =>
  if 0 ≤ (if 1000 < (image0.length : Int) then 1000 else (image0.length : Int)) ∧ (if 1000 < (image0.length : Int) then 1000 else (image0.length : Int)) ≤ (image0.length : Int) then
    (iter slab_Load.l1e fuel ((((0, (-1)), [], ([] : List (Int × List UInt8))), image0.take ((if 1000 < (image0.length : Int) then 1000 else (image0.length : Int))).toNat, ((image0.take ((if 1000 < (image0.length : Int) then 1000 else (image0.length : Int))).toNat).length : Int), 0))).bind fun ((s3c, s3d), o1, o2) =>
      some ((((s3c, s3d), o1, o2)))
  else none

theorem slab_Load.l1.le : ∀ s, Le (slab_Load.l1e s) (slab_Load.l1 s) := fun (((s3c, s3d), o1, o2), t13, t14, t15) => by first | exact Le.ite (Le.ite (Le.bind (slab_whole.le (t13.getD t15.toNat [])) (fun r25 => Le.ite (Le.rfl) (Le.rfl))) (Le.rfl)) (Le.rfl) | (unfold slab_Load.l1e slab_Load.l1; exact Le.ite (Le.ite (Le.bind (slab_whole.le (t13.getD t15.toNat [])) (fun r25 => Le.ite (Le.rfl) (Le.rfl))) (Le.rfl)) (Le.rfl))
theorem slab_Load.le : ∀ a, Le (slab_Load.e a) (slab_Load a) := fun image0 => by first | exact Le.ite (Le.bind (Le.loop slab_Load.l1.le) (fun ((s3c, s3d), o1, o2) => Le.rfl)) (Le.rfl) | (unfold slab_Load.e slab_Load; exact Le.ite (Le.bind (Le.loop slab_Load.l1.le) (fun ((s3c, s3d), o1, o2) => Le.rfl)) (Le.rfl))

def slab_New.e : Int → Option ((Int × Int) × List (List UInt8) × List (Int × List UInt8)) := fun n0 =>
  if 0 ≤ (if 1000 < (if 0 > n0 then 0 else n0) then 1000 else (if 0 > n0 then 0 else n0)) ∧ (if 1000 < (if 0 > n0 then 0 else n0) then 1000 else (if 0 > n0 then 0 else n0)) ≤ (if 1000 < (if 0 > n0 then 0 else n0) then 1000 else (if 0 > n0 then 0 else n0)) ∧ (if 1000 < (if 0 > n0 then 0 else n0) then 1000 else (if 0 > n0 then 0 else n0)) * (16 : Nat) ≤ 140737488355328 ∧ (if 1000 < (if 0 > n0 then 0 else n0) then 1000 else (if 0 > n0 then 0 else n0)) ≤ 9223372036854775807 then
    (slab_Load.e (List.replicate ((if 1000 < (if 0 > n0 then 0 else n0) then 1000 else (if 0 > n0 then 0 else n0))).toNat ([] : List UInt8))).bind fun ((r7, r7_2), r7_3, r7_4) =>
      some ((((r7, r7_2), r7_3, r7_4)))
  else none

theorem slab_New.le : ∀ a, Le (slab_New.e a) (slab_New a) := fun n0 => by first | exact Le.ite (Le.bind (slab_Load.le (List.replicate ((if 1000 < (if 0 > n0 then 0 else n0) then 1000 else (if 0 > n0 then 0 else n0))).toNat ([] : List UInt8))) (fun ((r7, r7_2), r7_3, r7_4) => Le.rfl)) (Le.rfl) | (unfold slab_New.e slab_New; exact Le.ite (Le.bind (slab_Load.le (List.replicate ((if 1000 < (if 0 > n0 then 0 else n0) then 1000 else (if 0 > n0 then 0 else n0))).toNat ([] : List UInt8))) (fun ((r7, r7_2), r7_3, r7_4) => Le.rfl)) (Le.rfl))

def slab_Slab_Size.e : (List (List UInt8) × (List (Int × List UInt8)) × Int × Int) → Option (Int) := fun s0 =>
  some (((s0.1.length : Int)))

theorem slab_Slab_Size.le : ∀ a, Le (slab_Slab_Size.e a) (slab_Slab_Size a) := fun s0 => by first | exact Le.rfl | (unfold slab_Slab_Size.e slab_Slab_Size; exact Le.rfl)

def slab_Slab_there.e : ((List (List UInt8) × (List (Int × List UInt8)) × Int × Int) × Int) → Option (Bool) := fun (s0, i1) =>
  if decide (i1 ≥ 0) = true then
    some ((decide (i1 < (s0.1.length : Int))))
  else
    some false

theorem slab_Slab_there.le : ∀ a, Le (slab_Slab_there.e a) (slab_Slab_there a) := fun (s0, i1) => by first | exact Le.ite (Le.rfl) (Le.rfl) | (unfold slab_Slab_there.e slab_Slab_there; exact Le.ite (Le.rfl) (Le.rfl))

def slab_Slab_Read.e : ((List (List UInt8) × (List (Int × List UInt8)) × Int × Int) × Int) → Option (List UInt8) := fun (s0, i1) =>
  (slab_Slab_there.e (s0, i1)).bind fun r9 =>
    if (!r9) = true then
      some []
    else
      if (mget (K := I) (V := .str) s0.2.1 i1).isSome = true then
        some ((((mget (K := I) (V := .str) s0.2.1 i1).getD [])))
      else
        if 0 ≤ i1 ∧ i1 < (s0.1.length : Int) then
          some ((s0.1.getD i1.toNat []))
        else none

theorem slab_Slab_Read.le : ∀ a, Le (slab_Slab_Read.e a) (slab_Slab_Read a) := fun (s0, i1) => by first | exact Le.bind (slab_Slab_there.le (s0, i1)) (fun r9 => Le.ite (Le.rfl) (Le.ite (Le.rfl) (Le.ite (Le.rfl) (Le.rfl)))) | (unfold slab_Slab_Read.e slab_Slab_Read; exact Le.bind (slab_Slab_there.le (s0, i1)) (fun r9 => Le.ite (Le.rfl) (Le.ite (Le.rfl) (Le.ite (Le.rfl) (Le.rfl)))))

def bits_Mul64.e : (Int × Int) → Option (Int × Int) := fun (x0, y1) =>
  some (((IntKind.u64.wrap ((IntKind.u64.wrap ((IntKind.u64.wrap ((Int.fdiv x0 (2 ^ 32)) * (Int.fdiv y1 (2 ^ 32)))) + (Int.fdiv (IntKind.u64.wrap ((IntKind.u64.wrap ((Int.fdiv x0 (2 ^ 32)) * (bitsOp .and .u64 y1 4294967295))) + (Int.fdiv (IntKind.u64.wrap ((bitsOp .and .u64 x0 4294967295) * (bitsOp .and .u64 y1 4294967295))) (2 ^ 32)))) (2 ^ 32)))) + (Int.fdiv (IntKind.u64.wrap ((bitsOp .and .u64 (IntKind.u64.wrap ((IntKind.u64.wrap ((Int.fdiv x0 (2 ^ 32)) * (bitsOp .and .u64 y1 4294967295))) + (Int.fdiv (IntKind.u64.wrap ((bitsOp .and .u64 x0 4294967295) * (bitsOp .and .u64 y1 4294967295))) (2 ^ 32)))) 4294967295) + (IntKind.u64.wrap ((bitsOp .and .u64 x0 4294967295) * (Int.fdiv y1 (2 ^ 32)))))) (2 ^ 32))), IntKind.u64.wrap (x0 * y1))))

theorem bits_Mul64.le : ∀ a, Le (bits_Mul64.e a) (bits_Mul64 a) := fun (x0, y1) => by first | exact Le.rfl | (unfold bits_Mul64.e bits_Mul64; exact Le.rfl)

def bits_Mul.e : (Int × Int) → Option (Int × Int) := fun (x0, y1) =>
  (bits_Mul64.e (x0, y1)).bind fun (r25, r25_2) =>
    some (((r25, r25_2)))

theorem bits_Mul.le : ∀ a, Le (bits_Mul.e a) (bits_Mul a) := fun (x0, y1) => by first | exact Le.bind (bits_Mul64.le (x0, y1)) (fun (r25, r25_2) => Le.rfl) | (unfold bits_Mul.e bits_Mul; exact Le.bind (bits_Mul64.le (x0, y1)) (fun (r25, r25_2) => Le.rfl))

def slices_Repeat_int_int.l1e : (List Int × Int) → Option ((List Int × Int) ⊕ (List Int)) := fun (newslice7, n8) =>
  if decide (n8 < (newslice7.length : Int)) = true then
    if 0 ≤ n8 ∧ n8 ≤ (newslice7.length : Int) then
      if 0 ≤ n8 ∧ n8 ≤ (newslice7.length : Int) then
        some (.inl ((copyRow newslice7 (((newslice7).drop 0).take ((n8 - 0).toNat)) n8.toNat (((newslice7.length : Int) - n8).toNat), IntKind.i64.wrap (n8 + ((min (((newslice7.length : Int) - n8).toNat) ((((newslice7).drop 0).take ((n8 - 0).toNat)).length) : Nat) : Int)))))
      else none
    else none
  else
    some (.inr newslice7)

def slices_Repeat_int_int.e : (List Int × Int) → Option (List Int) := fun (x0, count1) =>
  if decide (count1 < 0) = true then none else
  (bits_Mul.e (IntKind.u64.wrap ((x0.length : Int)), IntKind.u64.wrap (count1))).bind fun (r18, r18_2) =>
    if decide (r18 > 0) = false then
      if decide (r18_2 > 9223372036854775807) = true then none else
      if 0 ≤ IntKind.i64.wrap (r18_2) ∧ IntKind.i64.wrap (r18_2) ≤ IntKind.i64.wrap (r18_2) ∧ IntKind.i64.wrap (r18_2) * (8 : Nat) ≤ 140737488355328 ∧ IntKind.i64.wrap (r18_2) ≤ 9223372036854775807 then
        (iter slices_Repeat_int_int.l1e fuel ((copyRow (List.replicate (IntKind.i64.wrap (r18_2)).toNat (0 : Int)) x0 0 ((List.replicate (IntKind.i64.wrap (r18_2)).toNat (0 : Int)).length), ((min ((List.replicate (IntKind.i64.wrap (r18_2)).toNat (0 : Int)).length) x0.length : Nat) : Int)))).bind fun newslice7 =>
          some newslice7
      else none
    else none

theorem slices_Repeat_int_int.l1.le : ∀ s, Le (slices_Repeat_int_int.l1e s) (slices_Repeat_int_int.l1 s) := fun (newslice7, n8) => by first | exact Le.ite (Le.ite (Le.ite (Le.rfl) (Le.rfl)) (Le.rfl)) (Le.rfl) | (unfold slices_Repeat_int_int.l1e slices_Repeat_int_int.l1; exact Le.ite (Le.ite (Le.ite (Le.rfl) (Le.rfl)) (Le.rfl)) (Le.rfl))
theorem slices_Repeat_int_int.le : ∀ a, Le (slices_Repeat_int_int.e a) (slices_Repeat_int_int a) := fun (x0, count1) => by first | exact Le.ite (Le.rfl) (Le.bind (bits_Mul.le (IntKind.u64.wrap ((x0.length : Int)), IntKind.u64.wrap (count1))) (fun (r18, r18_2) => Le.ite (Le.ite (Le.rfl) (Le.ite (Le.bind (Le.loop slices_Repeat_int_int.l1.le) (fun newslice7 => Le.rfl)) (Le.rfl))) (Le.rfl))) | (unfold slices_Repeat_int_int.e slices_Repeat_int_int; exact Le.ite (Le.rfl) (Le.bind (bits_Mul.le (IntKind.u64.wrap ((x0.length : Int)), IntKind.u64.wrap (count1))) (fun (r18, r18_2) => Le.ite (Le.ite (Le.rfl) (Le.ite (Le.bind (Le.loop slices_Repeat_int_int.l1.le) (fun newslice7 => Le.rfl)) (Le.rfl))) (Le.rfl))))

def mould_Size.l1e : (Int × List Int × Int × Int) → Option ((Int × List Int × Int × Int) ⊕ (Int ⊕ Int)) := fun (n3, t6, t7, t8) =>
  if decide (t8 < t7) = true then
    if 0 ≤ t8 ∧ t8 < (t6.length : Int) then
      if (t6.getD t8.toNat 0 == 1) = true then
        some (.inl ((IntKind.i64.wrap (n3 + (t6.getD t8.toNat 0)), t6, t7, IntKind.i64.wrap (t8 + 1))))
      else
        if (t6.getD t8.toNat 0 == 2) = true then
          some (.inl ((IntKind.i64.wrap (n3 + (t6.getD t8.toNat 0)), t6, t7, IntKind.i64.wrap (t8 + 1))))
        else
          if (t6.getD t8.toNat 0 == 4) = true then
            some (.inl ((IntKind.i64.wrap (n3 + (t6.getD t8.toNat 0)), t6, t7, IntKind.i64.wrap (t8 + 1))))
          else
            some (.inr (.inr (-1)))
    else none
  else
    some (.inr (.inl n3))

def mould_Size.e : List Int → Option (Int) := fun widths0 =>
  (iter mould_Size.l1e fuel ((0, widths0, (widths0.length : Int), 0))).bind fun d => match d with
  | .inl n3 =>
    some n3
  | .inr t2 =>
    some t2

theorem mould_Size.l1.le : ∀ s, Le (mould_Size.l1e s) (mould_Size.l1 s) := fun (n3, t6, t7, t8) => by first | exact Le.ite (Le.ite (Le.ite (Le.rfl) (Le.ite (Le.rfl) (Le.ite (Le.rfl) (Le.rfl)))) (Le.rfl)) (Le.rfl) | (unfold mould_Size.l1e mould_Size.l1; exact Le.ite (Le.ite (Le.ite (Le.rfl) (Le.ite (Le.rfl) (Le.ite (Le.rfl) (Le.rfl)))) (Le.rfl)) (Le.rfl))
theorem mould_Size.le : ∀ a, Le (mould_Size.e a) (mould_Size a) := fun widths0 => by first | exact Le.bind (Le.loop mould_Size.l1.le) (fun d => match d with | .inl n3 => Le.rfl | .inr t2 => Le.rfl) | (unfold mould_Size.e mould_Size; exact Le.bind (Le.loop mould_Size.l1.le) (fun d => match d with | .inl n3 => Le.rfl | .inr t2 => Le.rfl))

def mould_Read.l2e : (List Int × List UInt8 × Int × Int × List Int × Int × Int × List Int × Int × Int) → Option ((List Int × List UInt8 × Int × Int × List Int × Int × Int × List Int × Int × Int) ⊕ (List Int × List UInt8 × Int × List Int × Int × Int)) := fun (values7, s1, i8, w9, t25, t26, t27, t35, t36, t37) =>
  if decide (t37 < t36) = true then
    if 0 ≤ t37 ∧ t37 < (t35.length : Int) then
      if 0 ≤ i8 ∧ i8 < (values7.length : Int) then
        if 0 ≤ IntKind.i64.wrap (8 * t37) then
          if 0 ≤ i8 ∧ i8 < (values7.length : Int) then
            some (.inl ((values7.set i8.toNat (bitsOp .or .i64 (values7.getD i8.toNat 0) (IntKind.i64.wrap (IntKind.i64.wrap (t35.getD t37.toNat 0) * 2 ^ (min (IntKind.i64.wrap (8 * t37)).toNat 64)))), s1, i8, w9, t25, t26, t27, t35, t36, IntKind.i64.wrap (t37 + 1))))
          else none
        else none
      else none
    else none
  else
    some (.inr (((values7, s1, w9, t25, t26, t27))))

def mould_Read.l1e : (List Int × List UInt8 × List Int × Int × Int) → Option ((List Int × List UInt8 × List Int × Int × Int) ⊕ (List Int)) := fun (values7, s1, t25, t26, t27) =>
  if decide (t27 < t26) = true then
    if 0 ≤ t27 ∧ t27 < (t25.length : Int) then
      if 0 ≤ t25.getD t27.toNat 0 ∧ t25.getD t27.toNat 0 ≤ (s1.length : Int) then
        (iter mould_Read.l2e fuel ((values7, s1, t27, t25.getD t27.toNat 0, t25, t26, t27, (s1.take (t25.getD t27.toNat 0).toNat).map fun b => (b.toNat : Int), (((s1.take (t25.getD t27.toNat 0).toNat).map fun b => (b.toNat : Int)).length : Int), 0))).bind fun (values7, s1, w9, t25, t26, t27) =>
          if 0 ≤ w9 ∧ w9 ≤ (s1.length : Int) then
            some (.inl ((values7, s1.drop w9.toNat, t25, t26, IntKind.i64.wrap (t27 + 1))))
          else none
      else none
    else none
  else
    some (.inr values7)

def mould_Read.e : (List Int × List UInt8) → Option (List Int × Int) := fun (widths0, s1) =>
  (mould_Size.e widths0).bind fun r13 =>
    if decide (r13 < 0) = true then
      some (((([] : List Int), 1)))
    else
      if decide ((s1.length : Int) < r13) = true then
        some (((([] : List Int), 2)))
      else
        if 0 ≤ (widths0.length : Int) ∧ (widths0.length : Int) ≤ (widths0.length : Int) ∧ (widths0.length : Int) * (8 : Nat) ≤ 140737488355328 ∧ (widths0.length : Int) ≤ 9223372036854775807 then
          (iter mould_Read.l1e fuel ((List.replicate ((widths0.length : Int)).toNat (0 : Int), s1, widths0, (widths0.length : Int), 0))).bind fun values7 =>
            some (((values7, 0)))
        else none

theorem mould_Read.l2.le : ∀ s, Le (mould_Read.l2e s) (mould_Read.l2 s) := fun (values7, s1, i8, w9, t25, t26, t27, t35, t36, t37) => by first | exact Le.ite (Le.ite (Le.ite (Le.ite (Le.ite (Le.rfl) (Le.rfl)) (Le.rfl)) (Le.rfl)) (Le.rfl)) (Le.rfl) | (unfold mould_Read.l2e mould_Read.l2; exact Le.ite (Le.ite (Le.ite (Le.ite (Le.ite (Le.rfl) (Le.rfl)) (Le.rfl)) (Le.rfl)) (Le.rfl)) (Le.rfl))
theorem mould_Read.l1.le : ∀ s, Le (mould_Read.l1e s) (mould_Read.l1 s) := fun (values7, s1, t25, t26, t27) => by first | exact Le.ite (Le.ite (Le.ite (Le.bind (Le.loop mould_Read.l2.le) (fun (values7, s1, w9, t25, t26, t27) => Le.ite (Le.rfl) (Le.rfl))) (Le.rfl)) (Le.rfl)) (Le.rfl) | (unfold mould_Read.l1e mould_Read.l1; exact Le.ite (Le.ite (Le.ite (Le.bind (Le.loop mould_Read.l2.le) (fun (values7, s1, w9, t25, t26, t27) => Le.ite (Le.rfl) (Le.rfl))) (Le.rfl)) (Le.rfl)) (Le.rfl))
theorem mould_Read.le : ∀ a, Le (mould_Read.e a) (mould_Read a) := fun (widths0, s1) => by first | exact Le.bind (mould_Size.le widths0) (fun r13 => Le.ite (Le.rfl) (Le.ite (Le.rfl) (Le.ite (Le.bind (Le.loop mould_Read.l1.le) (fun values7 => Le.rfl)) (Le.rfl)))) | (unfold mould_Read.e mould_Read; exact Le.bind (mould_Size.le widths0) (fun r13 => Le.ite (Le.rfl) (Le.ite (Le.rfl) (Le.ite (Le.bind (Le.loop mould_Read.l1.le) (fun values7 => Le.rfl)) (Le.rfl)))))

def strings_trimRightByte.l1e : (List UInt8 × Int) → Option ((List UInt8 × Int) ⊕ (List UInt8)) := fun (s0, c1) =>
  if decide ((s0.length : Int) > 0) = true then
    if 0 ≤ IntKind.i64.wrap ((s0.length : Int) - 1) ∧ IntKind.i64.wrap ((s0.length : Int) - 1) < (s0.length : Int) then
      if (((s0.getD ((IntKind.i64.wrap ((s0.length : Int) - 1)).toNat) 0).toNat : Int) == c1) = true then
        if 0 ≤ IntKind.i64.wrap ((s0.length : Int) - 1) ∧ IntKind.i64.wrap ((s0.length : Int) - 1) ≤ (s0.length : Int) then
          some (.inl ((s0.take (IntKind.i64.wrap ((s0.length : Int) - 1)).toNat, c1)))
        else none
      else
        some (.inr s0)
    else none
  else
    some (.inr s0)

def strings_trimRightByte.e : (List UInt8 × Int) → Option (List UInt8) := fun (s0, c1) =>
  (iter strings_trimRightByte.l1e fuel ((s0, c1))).bind fun s0 =>
    some s0

theorem strings_trimRightByte.l1.le : ∀ s, Le (strings_trimRightByte.l1e s) (strings_trimRightByte.l1 s) := fun (s0, c1) => by first | exact Le.ite (Le.ite (Le.ite (Le.ite (Le.rfl) (Le.rfl)) (Le.rfl)) (Le.rfl)) (Le.rfl) | (unfold strings_trimRightByte.l1e strings_trimRightByte.l1; exact Le.ite (Le.ite (Le.ite (Le.ite (Le.rfl) (Le.rfl)) (Le.rfl)) (Le.rfl)) (Le.rfl))
theorem strings_trimRightByte.le : ∀ a, Le (strings_trimRightByte.e a) (strings_trimRightByte a) := fun (s0, c1) => by first | exact Le.bind (Le.loop strings_trimRightByte.l1.le) (fun s0 => Le.rfl) | (unfold strings_trimRightByte.e strings_trimRightByte; exact Le.bind (Le.loop strings_trimRightByte.l1.le) (fun s0 => Le.rfl))

def strings_trimLeftByte.l1e : (List UInt8 × Int) → Option ((List UInt8 × Int) ⊕ (List UInt8)) := fun (s0, c1) =>
  if decide ((s0.length : Int) > 0) = true then
    if 0 ≤ (0 : Int) ∧ (0 : Int) < (s0.length : Int) then
      if (((s0.getD 0 0).toNat : Int) == c1) = true then
        if 0 ≤ (1 : Int) ∧ (1 : Int) ≤ (s0.length : Int) then
          some (.inl ((s0.drop 1, c1)))
        else none
      else
        some (.inr s0)
    else none
  else
    some (.inr s0)

def strings_trimLeftByte.e : (List UInt8 × Int) → Option (List UInt8) := fun (s0, c1) =>
  (iter strings_trimLeftByte.l1e fuel ((s0, c1))).bind fun s0 =>
    some s0

theorem strings_trimLeftByte.l1.le : ∀ s, Le (strings_trimLeftByte.l1e s) (strings_trimLeftByte.l1 s) := fun (s0, c1) => by first | exact Le.ite (Le.ite (Le.ite (Le.ite (Le.rfl) (Le.rfl)) (Le.rfl)) (Le.rfl)) (Le.rfl) | (unfold strings_trimLeftByte.l1e strings_trimLeftByte.l1; exact Le.ite (Le.ite (Le.ite (Le.ite (Le.rfl) (Le.rfl)) (Le.rfl)) (Le.rfl)) (Le.rfl))
theorem strings_trimLeftByte.le : ∀ a, Le (strings_trimLeftByte.e a) (strings_trimLeftByte a) := fun (s0, c1) => by first | exact Le.bind (Le.loop strings_trimLeftByte.l1.le) (fun s0 => Le.rfl) | (unfold strings_trimLeftByte.e strings_trimLeftByte; exact Le.bind (Le.loop strings_trimLeftByte.l1.le) (fun s0 => Le.rfl))

def strings_Trim.e : (List UInt8 × List UInt8) → Option (List UInt8) := fun (s0, cutset1) =>
  if (s0 == []) = false then
    if (cutset1 == []) = true then
      some s0
    else
      ((
        if ((cutset1.length : Int) == 1) = true then
          if 0 ≤ (0 : Int) ∧ (0 : Int) < (cutset1.length : Int) then
            some (((s0, cutset1, decide (((cutset1.getD 0 0).toNat : Int) < 128))))
          else none
        else
          some (((s0, cutset1, false)))) : Option (List UInt8 × List UInt8 × Bool)).bind fun (s0, cutset1, t21) =>
        if t21 = true then
          if 0 ≤ (0 : Int) ∧ (0 : Int) < (cutset1.length : Int) then
            (strings_trimRightByte.e (s0, ((cutset1.getD 0 0).toNat : Int))).bind fun r25 =>
              if 0 ≤ (0 : Int) ∧ (0 : Int) < (cutset1.length : Int) then
                (strings_trimLeftByte.e (r25, ((cutset1.getD 0 0).toNat : Int))).bind fun r28 =>
                  some r28
              else none
          else none
        else none
  else
    some s0

theorem strings_Trim.le : ∀ a, Le (strings_Trim.e a) (strings_Trim a) := fun (s0, cutset1) => by first | exact Le.ite (Le.ite (Le.rfl) (Le.bind (Le.ite (Le.ite (Le.rfl) (Le.rfl)) (Le.rfl)) (fun (s0, cutset1, t21) => Le.ite (Le.ite (Le.bind (strings_trimRightByte.le (s0, ((cutset1.getD 0 0).toNat : Int))) (fun r25 => Le.ite (Le.bind (strings_trimLeftByte.le (r25, ((cutset1.getD 0 0).toNat : Int))) (fun r28 => Le.rfl)) (Le.rfl))) (Le.rfl)) (Le.rfl)))) (Le.rfl) | (unfold strings_Trim.e strings_Trim; exact Le.ite (Le.ite (Le.rfl) (Le.bind (Le.ite (Le.ite (Le.rfl) (Le.rfl)) (Le.rfl)) (fun (s0, cutset1, t21) => Le.ite (Le.ite (Le.bind (strings_trimRightByte.le (s0, ((cutset1.getD 0 0).toNat : Int))) (fun r25 => Le.ite (Le.bind (strings_trimLeftByte.le (r25, ((cutset1.getD 0 0).toNat : Int))) (fun r28 => Le.rfl)) (Le.rfl))) (Le.rfl)) (Le.rfl)))) (Le.rfl))

def log_Log_free.e : (((List (List UInt8) × (List (Int × List UInt8)) × Int × Int) × Bool × Int) × Int) → Option (Bool) := fun (l0, i1) =>
  if decide (i1 ≥ 0) = true then
    (slab_Slab_Size.e l0.1).bind fun r13 =>
      if decide (i1 < r13) = true then
        if decide (i1 < 1) = false then
          some ((decide (i1 ≥ 42)))
        else
          some true
      else
        some false
  else
    some false

theorem log_Log_free.le : ∀ a, Le (log_Log_free.e a) (log_Log_free a) := fun (l0, i1) => by first | exact Le.ite (Le.bind (slab_Slab_Size.le l0.1) (fun r13 => Le.ite (Le.ite (Le.rfl) (Le.rfl)) (Le.rfl))) (Le.rfl) | (unfold log_Log_free.e log_Log_free; exact Le.ite (Le.bind (slab_Slab_Size.le l0.1) (fun r13 => Le.ite (Le.ite (Le.rfl) (Le.rfl)) (Le.rfl))) (Le.rfl))

def log_Log_right.l1e : ((List (Int × Int)) × ((List (List UInt8) × (List (Int × List UInt8)) × Int × Int) × Bool × Int) × (List (Int × List UInt8)) × Int × Int) → Option (((List (Int × Int)) × ((List (List UInt8) × (List (Int × List UInt8)) × Int × Int) × Bool × Int) × (List (Int × List UInt8)) × Int × Int) ⊕ (Unit ⊕ Bool)) := fun (seen5, l0, t9, t10, t11) =>
  if decide (t11 < t10) = true then
    if 0 ≤ t11 ∧ t11 < (t9.length : Int) then
      (log_Log_free.e (l0, (t9.getD t11.toNat (0, [])).1)).bind fun r23 =>
        if (!r23) = false then
          if ((((t9.getD t11.toNat (0, [])).2).length : Int) != 128) = false then
            if decide (((mget (K := I) (V := I) (mput (K := I) (V := I) seen5 ((t9.getD t11.toNat (0, [])).1) (IntKind.i64.wrap (((mget (K := I) (V := I) seen5 ((t9.getD t11.toNat (0, [])).1)).getD 0) + 1))) ((t9.getD t11.toNat (0, [])).1)).getD 0) > 1) = true then
              some (.inr (.inr false))
            else
              some (.inl ((mput (K := I) (V := I) seen5 ((t9.getD t11.toNat (0, [])).1) (IntKind.i64.wrap (((mget (K := I) (V := I) seen5 ((t9.getD t11.toNat (0, [])).1)).getD 0) + 1)), l0, t9, t10, IntKind.i64.wrap (t11 + 1))))
          else
            some (.inr (.inr false))
        else
          some (.inr (.inr false))
    else none
  else
    some (.inr (.inl ()))

def log_Log_right.e : (((List (List UInt8) × (List (Int × List UInt8)) × Int × Int) × Bool × Int) × List (Int × List UInt8)) → Option (Bool) := fun (l0, c1) =>
  (iter log_Log_right.l1e fuel ((([] : List (Int × Int)), l0, c1, (c1.length : Int), 0))).bind fun d => match d with
  | .inl _ =>
    some true
  | .inr t4 =>
    some t4

theorem log_Log_right.l1.le : ∀ s, Le (log_Log_right.l1e s) (log_Log_right.l1 s) := fun (seen5, l0, t9, t10, t11) => by first | exact Le.ite (Le.ite (Le.bind (log_Log_free.le (l0, (t9.getD t11.toNat (0, [])).1)) (fun r23 => Le.ite (Le.ite (Le.ite (Le.rfl) (Le.rfl)) (Le.rfl)) (Le.rfl))) (Le.rfl)) (Le.rfl) | (unfold log_Log_right.l1e log_Log_right.l1; exact Le.ite (Le.ite (Le.bind (log_Log_free.le (l0, (t9.getD t11.toNat (0, [])).1)) (fun r23 => Le.ite (Le.ite (Le.ite (Le.rfl) (Le.rfl)) (Le.rfl)) (Le.rfl))) (Le.rfl)) (Le.rfl))
theorem log_Log_right.le : ∀ a, Le (log_Log_right.e a) (log_Log_right a) := fun (l0, c1) => by first | exact Le.bind (Le.loop log_Log_right.l1.le) (fun d => match d with | .inl _ => Le.rfl | .inr t4 => Le.rfl) | (unfold log_Log_right.e log_Log_right; exact Le.bind (Le.loop log_Log_right.l1.le) (fun d => match d with | .inl _ => Le.rfl | .inr t4 => Le.rfl))

def log_Log_read_2.l1e : (((Bool × Int) × (Int × Int) × List (List UInt8) × (List (Int × List UInt8)) × List (Int × List UInt8)) × List Int × Int × Int) → Option ((((Bool × Int) × (Int × Int) × List (List UInt8) × (List (Int × List UInt8)) × List (Int × List UInt8)) × List Int × Int × Int) ⊕ ((Bool × Int) × (Int × Int) × List (List UInt8) × (List (Int × List UInt8)) × List (Int × List UInt8))) := fun (((l0b, l0c), (o1c, o1d), o2, o3, c9), t43, t44, t45) =>
  if decide (t45 < t44) = true then
    if 0 ≤ t45 ∧ t45 < (t43.length : Int) then
      (slab_Slab_Read.e ((o2, o3, o1c, o1d), IntKind.i64.wrap (2 + t45))).bind fun r58 =>
        if roomOk (c9.length + (([(t43.getD t45.toNat 0, r58)] : List (Int × List UInt8))).length) 24 then
          some (.inl ((((l0b, l0c), (o1c, o1d), o2, o3, c9 ++ (([(t43.getD t45.toNat 0, r58)] : List (Int × List UInt8)))), t43, t44, IntKind.i64.wrap (t45 + 1))))
        else none
    else none
  else
    some (.inr ((((l0b, l0c), (o1c, o1d), o2, o3, c9))))

def log_Log_read_2.e : ((Bool × Int) × (Int × Int) × List (List UInt8) × List (Int × List UInt8)) → Option (((Bool × Int) × (Int × Int) × List (List UInt8) × List (Int × List UInt8)) × (List (Int × List UInt8)) × Bool) := fun ((l0b, l0c), (o1c, o1d), o2, o3) =>
  (slab_Slab_Read.e ((o2, o3, o1c, o1d), 1)).bind fun r16 =>
    if 0 ≤ (0 : Int) ∧ (0 : Int) < (r16.length : Int) then
      if decide (IntKind.i64.wrap (((r16.getD 0 0).toNat : Int)) > 40) = true then
        some (((((l0b, l0c), (o1c, o1d), o2, o3), ([] : List (Int × List UInt8)), false)))
      else
        (slices_Repeat_int_int.e (([2] : List Int), IntKind.i64.wrap (((r16.getD 0 0).toNat : Int)))).bind fun r24 =>
          if 0 ≤ (1 : Int) ∧ (1 : Int) ≤ (r16.length : Int) then
            (mould_Read.e (r24, r16.drop 1)).bind fun (r29, r29_2) =>
              if (r29_2 != 0) = false then
                (mould_Size.e r24).bind fun r37 =>
                  if 0 ≤ IntKind.i64.wrap (1 + r37) ∧ IntKind.i64.wrap (1 + r37) ≤ (r16.length : Int) then
                    (strings_Trim.e (r16.drop (IntKind.i64.wrap (1 + r37)).toNat, ([0] : List UInt8))).bind fun r40 =>
                      if (!(r40 == [])) = true then
                        some (((((l0b, l0c), (o1c, o1d), o2, o3), ([] : List (Int × List UInt8)), false)))
                      else
                        (iter log_Log_read_2.l1e fuel ((((l0b, l0c), (o1c, o1d), o2, o3, []), r29, (r29.length : Int), 0))).bind fun ((l0b, l0c), (o1c, o1d), o2, o3, c9) =>
                          (log_Log_right.e (((o2, o3, o1c, o1d), l0b, l0c), c9)).bind fun r66 =>
                            some (((((l0b, l0c), (o1c, o1d), o2, o3), c9, r66)))
                  else none
              else
                some (((((l0b, l0c), (o1c, o1d), o2, o3), ([] : List (Int × List UInt8)), false)))
          else none
    else none

theorem log_Log_read_2.l1.le : ∀ s, Le (log_Log_read_2.l1e s) (log_Log_read_2.l1 s) := fun (((l0b, l0c), (o1c, o1d), o2, o3, c9), t43, t44, t45) => by first | exact Le.ite (Le.ite (Le.bind (slab_Slab_Read.le ((o2, o3, o1c, o1d), IntKind.i64.wrap (2 + t45))) (fun r58 => Le.ite (Le.rfl) (Le.rfl))) (Le.rfl)) (Le.rfl) | (unfold log_Log_read_2.l1e log_Log_read_2.l1; exact Le.ite (Le.ite (Le.bind (slab_Slab_Read.le ((o2, o3, o1c, o1d), IntKind.i64.wrap (2 + t45))) (fun r58 => Le.ite (Le.rfl) (Le.rfl))) (Le.rfl)) (Le.rfl))
theorem log_Log_read_2.le : ∀ a, Le (log_Log_read_2.e a) (log_Log_read_2 a) := fun ((l0b, l0c), (o1c, o1d), o2, o3) => by first | exact Le.bind (slab_Slab_Read.le ((o2, o3, o1c, o1d), 1)) (fun r16 => Le.ite (Le.ite (Le.rfl) (Le.bind (slices_Repeat_int_int.le (([2] : List Int), IntKind.i64.wrap (((r16.getD 0 0).toNat : Int)))) (fun r24 => Le.ite (Le.bind (mould_Read.le (r24, r16.drop 1)) (fun (r29, r29_2) => Le.ite (Le.bind (mould_Size.le r24) (fun r37 => Le.ite (Le.bind (strings_Trim.le (r16.drop (IntKind.i64.wrap (1 + r37)).toNat, ([0] : List UInt8))) (fun r40 => Le.ite (Le.rfl) (Le.bind (Le.loop log_Log_read_2.l1.le) (fun ((l0b, l0c), (o1c, o1d), o2, o3, c9) => Le.bind (log_Log_right.le (((o2, o3, o1c, o1d), l0b, l0c), c9)) (fun r66 => Le.rfl))))) (Le.rfl))) (Le.rfl))) (Le.rfl)))) (Le.rfl)) | (unfold log_Log_read_2.e log_Log_read_2; exact Le.bind (slab_Slab_Read.le ((o2, o3, o1c, o1d), 1)) (fun r16 => Le.ite (Le.ite (Le.rfl) (Le.bind (slices_Repeat_int_int.le (([2] : List Int), IntKind.i64.wrap (((r16.getD 0 0).toNat : Int)))) (fun r24 => Le.ite (Le.bind (mould_Read.le (r24, r16.drop 1)) (fun (r29, r29_2) => Le.ite (Le.bind (mould_Size.le r24) (fun r37 => Le.ite (Le.bind (strings_Trim.le (r16.drop (IntKind.i64.wrap (1 + r37)).toNat, ([0] : List UInt8))) (fun r40 => Le.ite (Le.rfl) (Le.bind (Le.loop log_Log_read_2.l1.le) (fun ((l0b, l0c), (o1c, o1d), o2, o3, c9) => Le.bind (log_Log_right.le (((o2, o3, o1c, o1d), l0b, l0c), c9)) (fun r66 => Le.rfl))))) (Le.rfl))) (Le.rfl))) (Le.rfl)))) (Le.rfl)))

def slab_Slab_call.e : ((Int × Int) × List (List UInt8) × List (Int × List UInt8)) → Option (((Int × Int) × List (List UInt8) × List (Int × List UInt8)) × Int) := fun ((s0c, s0d), o1, o2) =>
  ((
    if (s0d == 0) = true then
      some (.inr (((((IntKind.i64.wrap (s0c + 1), s0d), o1, o2), 14))))
    else
      if decide (s0d > 0) = true then
        some (.inl (((s0c, IntKind.i64.wrap (s0d - 1)), o1, o2)))
      else
        some (.inl (((s0c, s0d), o1, o2)))) : Option (((Int × Int) × List (List UInt8) × List (Int × List UInt8)) ⊕ (((Int × Int) × List (List UInt8) × List (Int × List UInt8)) × Int))).bind fun d => match d with
  | .inl ((s0c, s0d), o1, o2) =>
    some (((((IntKind.i64.wrap (s0c + 1), s0d), o1, o2), 0)))
  | .inr ((((o0c, o0d), o1, o2), t2)) =>
    some (((((o0c, o0d), o1, o2), t2)))

theorem slab_Slab_call.le : ∀ a, Le (slab_Slab_call.e a) (slab_Slab_call a) := fun ((s0c, s0d), o1, o2) => by first | exact Le.bind (Le.ite (Le.rfl) (Le.ite (Le.rfl) (Le.rfl))) (fun d => match d with | .inl ((s0c, s0d), o1, o2) => Le.rfl | .inr ((((o0c, o0d), o1, o2), t2)) => Le.rfl) | (unfold slab_Slab_call.e slab_Slab_call; exact Le.bind (Le.ite (Le.rfl) (Le.ite (Le.rfl) (Le.rfl))) (fun d => match d with | .inl ((s0c, s0d), o1, o2) => Le.rfl | .inr ((((o0c, o0d), o1, o2), t2)) => Le.rfl))

def slab_Slab_Write.e : (((Int × Int) × List (List UInt8) × List (Int × List UInt8)) × Int × List UInt8) → Option (((Int × Int) × List (List UInt8) × List (Int × List UInt8)) × Int) := fun (((s0c, s0d), o1, o2), i1, data2) =>
  (slab_Slab_call.e ((s0c, s0d), o1, o2)).bind fun (((r9, r9_2), r9_3, r9_4), r9_5) =>
    if (r9_5 != 0) = true then
      some (((((r9, r9_2), r9_3, r9_4), r9_5)))
    else
      (slab_Slab_there.e ((r9_3, r9_4, r9, r9_2), i1)).bind fun r15 =>
        if (!r15) = false then
          if decide ((data2.length : Int) > 128) = true then
            some (((((r9, r9_2), r9_3, r9_4), 1)))
          else
            (slab_whole.e data2).bind fun r28 =>
              some (((((r9, r9_2), r9_3, mput (K := I) (V := .str) r9_4 i1 r28), 0)))
        else
          some (((((r9, r9_2), r9_3, r9_4), 1)))

theorem slab_Slab_Write.le : ∀ a, Le (slab_Slab_Write.e a) (slab_Slab_Write a) := fun (((s0c, s0d), o1, o2), i1, data2) => by first | exact Le.bind (slab_Slab_call.le ((s0c, s0d), o1, o2)) (fun (((r9, r9_2), r9_3, r9_4), r9_5) => Le.ite (Le.rfl) (Le.bind (slab_Slab_there.le ((r9_3, r9_4, r9, r9_2), i1)) (fun r15 => Le.ite (Le.ite (Le.rfl) (Le.bind (slab_whole.le data2) (fun r28 => Le.rfl))) (Le.rfl)))) | (unfold slab_Slab_Write.e slab_Slab_Write; exact Le.bind (slab_Slab_call.le ((s0c, s0d), o1, o2)) (fun (((r9, r9_2), r9_3, r9_4), r9_5) => Le.ite (Le.rfl) (Le.bind (slab_Slab_there.le ((r9_3, r9_4, r9, r9_2), i1)) (fun r15 => Le.ite (Le.ite (Le.rfl) (Le.bind (slab_whole.le data2) (fun r28 => Le.rfl))) (Le.rfl)))))

def maps_Keys_map_int_string_int_string.e : (List (Int × List UInt8)) → Option (List (Int × List UInt8)) := fun m0 =>
  some m0

theorem maps_Keys_map_int_string_int_string.le : ∀ a, Le (maps_Keys_map_int_string_int_string.e a) (maps_Keys_map_int_string_int_string a) := fun m0 => by first | exact Le.rfl | (unfold maps_Keys_map_int_string_int_string.e maps_Keys_map_int_string_int_string; exact Le.rfl)

def slab_Slab_Loose.e : ((Int × Int) × List (List UInt8) × List (Int × List UInt8)) → Option (((Int × Int) × List (List UInt8) × List (Int × List UInt8)) × List Int) := fun ((s0c, s0d), o1, o2) =>
  (maps_Keys_map_int_string_int_string.e o2).bind fun r9 =>
    (slices_Sorted r9).bind fun (r10, r10_2) =>
      some (((((s0c, s0d), o1, r10), r10_2)))

theorem slab_Slab_Loose.le : ∀ a, Le (slab_Slab_Loose.e a) (slab_Slab_Loose a) := fun ((s0c, s0d), o1, o2) => by first | exact Le.bind (maps_Keys_map_int_string_int_string.le o2) (fun r9 => Le.bind Le.rfl (fun (r10, r10_2) => Le.rfl)) | (unfold slab_Slab_Loose.e slab_Slab_Loose; exact Le.bind (maps_Keys_map_int_string_int_string.le o2) (fun r9 => Le.bind Le.rfl (fun (r10, r10_2) => Le.rfl)))

def slab_Slab_Flush_1.e : Int → Option (Bool) := fun t0 =>
  some true

theorem slab_Slab_Flush_1.le : ∀ a, Le (slab_Slab_Flush_1.e a) (slab_Slab_Flush_1 a) := fun t0 => by first | exact Le.rfl | (unfold slab_Slab_Flush_1.e slab_Slab_Flush_1; exact Le.rfl)

def slab_Slab_keep.l1e : (((Int × Int) × List (List UInt8) × List (Int × List UInt8)) × List Int × Int × Int) → Option ((((Int × Int) × List (List UInt8) × List (Int × List UInt8)) × List Int × Int × Int) ⊕ ((Int × Int) × List (List UInt8) × List (Int × List UInt8))) := fun (((s0c, s0d), o1, o2), t7, t8, t9) =>
  if decide (t9 < t8) = true then
    if 0 ≤ t9 ∧ t9 < (t7.length : Int) then
      (slab_Slab_Flush_1.e t9).bind fun r16 =>
        if r16 = true then
          if 0 ≤ t7.getD t9.toNat 0 ∧ t7.getD t9.toNat 0 < (o1.length : Int) then
            some (.inl ((((s0c, s0d), o1.set ((t7.getD t9.toNat 0).toNat) (((mget (K := I) (V := .str) o2 (t7.getD t9.toNat 0)).getD [])), o2), t7, t8, IntKind.i64.wrap (t9 + 1))))
          else none
        else
          some (.inl ((((s0c, s0d), o1, o2), t7, t8, IntKind.i64.wrap (t9 + 1))))
    else none
  else
    some (.inr ((((s0c, s0d), o1, o2))))

def slab_Slab_keep.e : ((Int × Int) × List (List UInt8) × List (Int × List UInt8)) → Option ((Int × Int) × List (List UInt8) × List (Int × List UInt8)) := fun ((s0c, s0d), o1, o2) =>
  (slab_Slab_Loose.e ((s0c, s0d), o1, o2)).bind fun ((_, _, _), r7) =>
    (iter slab_Slab_keep.l1e fuel ((((s0c, s0d), o1, o2), r7, (r7.length : Int), 0))).bind fun ((s0c, s0d), o1, o2) =>
      some ((((s0c, s0d), o1, ([] : List (Int × List UInt8)))))

theorem slab_Slab_keep.l1.le : ∀ s, Le (slab_Slab_keep.l1e s) (slab_Slab_keep.l1 s) := fun (((s0c, s0d), o1, o2), t7, t8, t9) => by first | exact Le.ite (Le.ite (Le.bind (slab_Slab_Flush_1.le t9) (fun r16 => Le.ite (Le.ite (Le.rfl) (Le.rfl)) (Le.rfl))) (Le.rfl)) (Le.rfl) | (unfold slab_Slab_keep.l1e slab_Slab_keep.l1; exact Le.ite (Le.ite (Le.bind (slab_Slab_Flush_1.le t9) (fun r16 => Le.ite (Le.ite (Le.rfl) (Le.rfl)) (Le.rfl))) (Le.rfl)) (Le.rfl))
theorem slab_Slab_keep.le : ∀ a, Le (slab_Slab_keep.e a) (slab_Slab_keep a) := fun ((s0c, s0d), o1, o2) => by first | exact Le.bind (slab_Slab_Loose.le ((s0c, s0d), o1, o2)) (fun ((_, _, _), r7) => Le.bind (Le.loop slab_Slab_keep.l1.le) (fun ((s0c, s0d), o1, o2) => Le.rfl)) | (unfold slab_Slab_keep.e slab_Slab_keep; exact Le.bind (slab_Slab_Loose.le ((s0c, s0d), o1, o2)) (fun ((_, _, _), r7) => Le.bind (Le.loop slab_Slab_keep.l1.le) (fun ((s0c, s0d), o1, o2) => Le.rfl)))

def slab_Slab_Flush.e : ((Int × Int) × List (List UInt8) × List (Int × List UInt8)) → Option (((Int × Int) × List (List UInt8) × List (Int × List UInt8)) × Int) := fun ((s0c, s0d), o1, o2) =>
  (slab_Slab_call.e ((s0c, s0d), o1, o2)).bind fun (((r5, r5_2), r5_3, r5_4), r5_5) =>
    if (r5_5 == 0) = true then
      (slab_Slab_keep.e ((r5, r5_2), r5_3, r5_4)).bind fun ((r9, r9_2), r9_3, r9_4) =>
        some (((((r9, r9_2), r9_3, r9_4), r5_5)))
    else
      some (((((r5, r5_2), r5_3, r5_4), r5_5)))

theorem slab_Slab_Flush.le : ∀ a, Le (slab_Slab_Flush.e a) (slab_Slab_Flush a) := fun ((s0c, s0d), o1, o2) => by first | exact Le.bind (slab_Slab_call.le ((s0c, s0d), o1, o2)) (fun (((r5, r5_2), r5_3, r5_4), r5_5) => Le.ite (Le.bind (slab_Slab_keep.le ((r5, r5_2), r5_3, r5_4)) (fun ((r9, r9_2), r9_3, r9_4) => Le.rfl)) (Le.rfl)) | (unfold slab_Slab_Flush.e slab_Slab_Flush; exact Le.bind (slab_Slab_call.le ((s0c, s0d), o1, o2)) (fun (((r5, r5_2), r5_3, r5_4), r5_5) => Le.ite (Le.bind (slab_Slab_keep.le ((r5, r5_2), r5_3, r5_4)) (fun ((r9, r9_2), r9_3, r9_4) => Le.rfl)) (Le.rfl)))

def log_Log_write.l1e : (((Bool × Int) × (Int × Int) × List (List UInt8) × List (Int × List UInt8)) × (List (Int × List UInt8)) × Int × Int) → Option ((((Bool × Int) × (Int × Int) × List (List UInt8) × List (Int × List UInt8)) × (List (Int × List UInt8)) × Int × Int) ⊕ (((Bool × Int) × (Int × Int) × List (List UInt8) × List (Int × List UInt8)) ⊕ (((Bool × Int) × (Int × Int) × List (List UInt8) × List (Int × List UInt8)) × Int))) := fun (((l0b, l0c), (o1c, o1d), o2, o3), t8, t9, t10) =>
  if decide (t10 < t9) = true then
    if 0 ≤ t10 ∧ t10 < (t8.length : Int) then
      (slab_Slab_Write.e (((o1c, o1d), o2, o3), (t8.getD t10.toNat (0, [])).1, (t8.getD t10.toNat (0, [])).2)).bind fun (((r22, r22_2), r22_3, r22_4), r22_5) =>
        if (r22_5 != 0) = true then
          some (.inr (.inr (((((l0b, l0c), (r22, r22_2), r22_3, r22_4), r22_5)))))
        else
          some (.inl ((((l0b, l0c), (r22, r22_2), r22_3, r22_4), t8, t9, IntKind.i64.wrap (t10 + 1))))
    else none
  else
    some (.inr (.inl (((l0b, l0c), (o1c, o1d), o2, o3))))

def log_Log_write.e : (((Bool × Int) × (Int × Int) × List (List UInt8) × List (Int × List UInt8)) × List (Int × List UInt8)) → Option (((Bool × Int) × (Int × Int) × List (List UInt8) × List (Int × List UInt8)) × Int) := fun (((l0b, l0c), (o1c, o1d), o2, o3), c1) =>
  (iter log_Log_write.l1e fuel ((((l0b, l0c), (o1c, o1d), o2, o3), c1, (c1.length : Int), 0))).bind fun d => match d with
  | .inl ((l0b, l0c), (o1c, o1d), o2, o3) =>
    (slab_Slab_Flush.e ((o1c, o1d), o2, o3)).bind fun (((r31, r31_2), r31_3, r31_4), r31_5) =>
      some (((((l0b, l0c), (r31, r31_2), r31_3, r31_4), r31_5)))
  | .inr ((((o0b, o0c), (o1c, o1d), o2, o3), t4)) =>
    some (((((o0b, o0c), (o1c, o1d), o2, o3), t4)))

theorem log_Log_write.l1.le : ∀ s, Le (log_Log_write.l1e s) (log_Log_write.l1 s) := fun (((l0b, l0c), (o1c, o1d), o2, o3), t8, t9, t10) => by first | exact Le.ite (Le.ite (Le.bind (slab_Slab_Write.le (((o1c, o1d), o2, o3), (t8.getD t10.toNat (0, [])).1, (t8.getD t10.toNat (0, [])).2)) (fun (((r22, r22_2), r22_3, r22_4), r22_5) => Le.ite (Le.rfl) (Le.rfl))) (Le.rfl)) (Le.rfl) | (unfold log_Log_write.l1e log_Log_write.l1; exact Le.ite (Le.ite (Le.bind (slab_Slab_Write.le (((o1c, o1d), o2, o3), (t8.getD t10.toNat (0, [])).1, (t8.getD t10.toNat (0, [])).2)) (fun (((r22, r22_2), r22_3, r22_4), r22_5) => Le.ite (Le.rfl) (Le.rfl))) (Le.rfl)) (Le.rfl))
theorem log_Log_write.le : ∀ a, Le (log_Log_write.e a) (log_Log_write a) := fun (((l0b, l0c), (o1c, o1d), o2, o3), c1) => by first | exact Le.bind (Le.loop log_Log_write.l1.le) (fun d => match d with | .inl ((l0b, l0c), (o1c, o1d), o2, o3) => Le.bind (slab_Slab_Flush.le ((o1c, o1d), o2, o3)) (fun (((r31, r31_2), r31_3, r31_4), r31_5) => Le.rfl) | .inr ((((o0b, o0c), (o1c, o1d), o2, o3), t4)) => Le.rfl) | (unfold log_Log_write.e log_Log_write; exact Le.bind (Le.loop log_Log_write.l1.le) (fun d => match d with | .inl ((l0b, l0c), (o1c, o1d), o2, o3) => Le.bind (slab_Slab_Flush.le ((o1c, o1d), o2, o3)) (fun (((r31, r31_2), r31_3, r31_4), r31_5) => Le.rfl) | .inr ((((o0b, o0c), (o1c, o1d), o2, o3), t4)) => Le.rfl))

def log_Log_apply_1.e : (((Bool × Int) × (Int × Int) × List (List UInt8) × List (Int × List UInt8)) × List (Int × List UInt8)) → Option (((Bool × Int) × (Int × Int) × List (List UInt8) × List (Int × List UInt8)) × Int) := fun (((o1b, o1c), (o2c, o2d), o3, o4), t1) =>
  (log_Log_write.e (((o1b, o1c), (o2c, o2d), o3, o4), t1)).bind fun (((r5, r5_2), (r5_3, r5_4), r5_5, r5_6), r5_7) =>
    some (((((r5, r5_2), (r5_3, r5_4), r5_5, r5_6), r5_7)))

theorem log_Log_apply_1.le : ∀ a, Le (log_Log_apply_1.e a) (log_Log_apply_1 a) := fun (((o1b, o1c), (o2c, o2d), o3, o4), t1) => by first | exact Le.bind (log_Log_write.le (((o1b, o1c), (o2c, o2d), o3, o4), t1)) (fun (((r5, r5_2), (r5_3, r5_4), r5_5, r5_6), r5_7) => Le.rfl) | (unfold log_Log_apply_1.e log_Log_apply_1; exact Le.bind (log_Log_write.le (((o1b, o1c), (o2c, o2d), o3, o4), t1)) (fun (((r5, r5_2), (r5_3, r5_4), r5_5, r5_6), r5_7) => Le.rfl))

def mould_Write.l2e : (List Int × List Int × Int × Int × List Int × Int × Int) → Option ((List Int × List Int × Int × Int × List Int × Int × Int) ⊕ (List Int × List Int × List Int × Int × Int)) := fun (b6, widths0, v8, w9, t23, t24, t25) =>
  if decide (w9 > 0) = true then
    if roomOk (b6.length + (([IntKind.u8.wrap (v8)] : List Int)).length) 1 then
      some (.inl ((b6 ++ (([IntKind.u8.wrap (v8)] : List Int)), widths0, Int.fdiv v8 (2 ^ 8), IntKind.i64.wrap (w9 - 1), t23, t24, t25)))
    else none
  else
    some (.inr (((b6, widths0, t23, t24, t25))))

def mould_Write.l1e : (List Int × List Int × List Int × Int × Int) → Option ((List Int × List Int × List Int × Int × Int) ⊕ ((List Int) ⊕ (List UInt8 × Int))) := fun (b6, widths0, t23, t24, t25) =>
  if decide (t25 < t24) = true then
    if 0 ≤ t25 ∧ t25 < (t23.length : Int) then
      if 0 ≤ t25 ∧ t25 < (widths0.length : Int) then
        if decide (t23.getD t25.toNat 0 < 0) = false then
          if 0 ≤ IntKind.i64.wrap (8 * (widths0.getD t25.toNat 0)) then
            if (Int.fdiv (t23.getD t25.toNat 0) (2 ^ (min (IntKind.i64.wrap (8 * (widths0.getD t25.toNat 0))).toNat 64)) != 0) = true then
              some (.inr (.inr ((([], 3)))))
            else
              (iter mould_Write.l2e fuel ((b6, widths0, t23.getD t25.toNat 0, widths0.getD t25.toNat 0, t23, t24, t25))).bind fun (b6, widths0, t23, t24, t25) =>
                some (.inl ((b6, widths0, t23, t24, IntKind.i64.wrap (t25 + 1))))
          else none
        else
          some (.inr (.inr ((([], 3)))))
      else none
    else none
  else
    some (.inr (.inl b6))

def mould_Write.e : (List Int × List Int) → Option (List UInt8 × Int) := fun (widths0, values1) =>
  (mould_Size.e widths0).bind fun r11 =>
    if decide (r11 < 0) = false then
      if ((widths0.length : Int) != (values1.length : Int)) = true then
        some ((([], 1)))
      else
        (mould_Size.e widths0).bind fun r21 =>
          if 0 ≤ (0 : Int) ∧ (0 : Int) ≤ r21 ∧ r21 * (1 : Nat) ≤ 140737488355328 ∧ r21 ≤ 9223372036854775807 then
            (iter mould_Write.l1e fuel ((List.replicate 0 (0 : Int), widths0, values1, (values1.length : Int), 0))).bind fun d => match d with
            | .inl b6 =>
              some (((b6.map fun (n : Int) => UInt8.ofNat n.toNat, 0)))
            | .inr ((t4, t5)) =>
              some (((t4, t5)))
          else none
    else
      some ((([], 1)))

theorem mould_Write.l2.le : ∀ s, Le (mould_Write.l2e s) (mould_Write.l2 s) := fun (b6, widths0, v8, w9, t23, t24, t25) => by first | exact Le.ite (Le.ite (Le.rfl) (Le.rfl)) (Le.rfl) | (unfold mould_Write.l2e mould_Write.l2; exact Le.ite (Le.ite (Le.rfl) (Le.rfl)) (Le.rfl))
theorem mould_Write.l1.le : ∀ s, Le (mould_Write.l1e s) (mould_Write.l1 s) := fun (b6, widths0, t23, t24, t25) => by first | exact Le.ite (Le.ite (Le.ite (Le.ite (Le.ite (Le.ite (Le.rfl) (Le.bind (Le.loop mould_Write.l2.le) (fun (b6, widths0, t23, t24, t25) => Le.rfl))) (Le.rfl)) (Le.rfl)) (Le.rfl)) (Le.rfl)) (Le.rfl) | (unfold mould_Write.l1e mould_Write.l1; exact Le.ite (Le.ite (Le.ite (Le.ite (Le.ite (Le.ite (Le.rfl) (Le.bind (Le.loop mould_Write.l2.le) (fun (b6, widths0, t23, t24, t25) => Le.rfl))) (Le.rfl)) (Le.rfl)) (Le.rfl)) (Le.rfl)) (Le.rfl))
theorem mould_Write.le : ∀ a, Le (mould_Write.e a) (mould_Write a) := fun (widths0, values1) => by first | exact Le.bind (mould_Size.le widths0) (fun r11 => Le.ite (Le.ite (Le.rfl) (Le.bind (mould_Size.le widths0) (fun r21 => Le.ite (Le.bind (Le.loop mould_Write.l1.le) (fun d => match d with | .inl b6 => Le.rfl | .inr ((t4, t5)) => Le.rfl)) (Le.rfl)))) (Le.rfl)) | (unfold mould_Write.e mould_Write; exact Le.bind (mould_Size.le widths0) (fun r11 => Le.ite (Le.ite (Le.rfl) (Le.bind (mould_Size.le widths0) (fun r21 => Le.ite (Le.bind (Le.loop mould_Write.l1.le) (fun d => match d with | .inl b6 => Le.rfl | .inr ((t4, t5)) => Le.rfl)) (Le.rfl)))) (Le.rfl)))

def log_headOf.e : List Int → Option (List (Int × List UInt8)) := fun blocks0 =>
  (slices_Repeat_int_int.e (([2] : List Int), (blocks0.length : Int))).bind fun r9 =>
    (mould_Write.e (r9, blocks0)).bind fun (r11, r11_2) =>
      if ((([IntKind.u8.wrap ((blocks0.length : Int))] : List Int)).map fun (n : Int) => UInt8.ofNat n.toNat).length + r11.length ≤ 9223372036854775807 then
        (mould_Pad.e (((([IntKind.u8.wrap ((blocks0.length : Int))] : List Int)).map fun (n : Int) => UInt8.ofNat n.toNat) ++ r11, 128)).bind fun (r22, r22_2) =>
          some ((([(1, r22)] : List (Int × List UInt8))))
      else none

theorem log_headOf.le : ∀ a, Le (log_headOf.e a) (log_headOf a) := fun blocks0 => by first | exact Le.bind (slices_Repeat_int_int.le (([2] : List Int), (blocks0.length : Int))) (fun r9 => Le.bind (mould_Write.le (r9, blocks0)) (fun (r11, r11_2) => Le.ite (Le.bind (mould_Pad.le (((([IntKind.u8.wrap ((blocks0.length : Int))] : List Int)).map fun (n : Int) => UInt8.ofNat n.toNat) ++ r11, 128)) (fun (r22, r22_2) => Le.rfl)) (Le.rfl))) | (unfold log_headOf.e log_headOf; exact Le.bind (slices_Repeat_int_int.le (([2] : List Int), (blocks0.length : Int))) (fun r9 => Le.bind (mould_Write.le (r9, blocks0)) (fun (r11, r11_2) => Le.ite (Le.bind (mould_Pad.le (((([IntKind.u8.wrap ((blocks0.length : Int))] : List Int)).map fun (n : Int) => UInt8.ofNat n.toNat) ++ r11, 128)) (fun (r22, r22_2) => Le.rfl)) (Le.rfl))))

def log_Log_apply_2.e : ((Bool × Int) × (Int × Int) × List (List UInt8) × List (Int × List UInt8)) → Option (((Bool × Int) × (Int × Int) × List (List UInt8) × List (Int × List UInt8)) × Int) := fun ((o1b, o1c), (o2c, o2d), o3, o4) =>
  (log_headOf.e ([] : List Int)).bind fun r3 =>
    (log_Log_write.e (((o1b, o1c), (o2c, o2d), o3, o4), r3)).bind fun (((r4, r4_2), (r4_3, r4_4), r4_5, r4_6), r4_7) =>
      some (((((r4, r4_2), (r4_3, r4_4), r4_5, r4_6), r4_7)))

theorem log_Log_apply_2.le : ∀ a, Le (log_Log_apply_2.e a) (log_Log_apply_2 a) := fun ((o1b, o1c), (o2c, o2d), o3, o4) => by first | exact Le.bind (log_headOf.le ([] : List Int)) (fun r3 => Le.bind (log_Log_write.le (((o1b, o1c), (o2c, o2d), o3, o4), r3)) (fun (((r4, r4_2), (r4_3, r4_4), r4_5, r4_6), r4_7) => Le.rfl)) | (unfold log_Log_apply_2.e log_Log_apply_2; exact Le.bind (log_headOf.le ([] : List Int)) (fun r3 => Le.bind (log_Log_write.le (((o1b, o1c), (o2c, o2d), o3, o4), r3)) (fun (((r4, r4_2), (r4_3, r4_4), r4_5, r4_6), r4_7) => Le.rfl)))

def log_all.e : ((List (Int × List UInt8)) × (Bool × Int) × (Int × Int) × List (List UInt8) × List (Int × List UInt8)) → Option (((List (Int × List UInt8)) × (Bool × Int) × (Int × Int) × List (List UInt8) × List (Int × List UInt8)) × Int) := fun (o1, (o2b, o2c), (o3c, o3d), o4, o5) =>
  (log_Log_apply_1.e (((o2b, o2c), (o3c, o3d), o4, o5), o1)).bind fun (((r13, r13_2), (r13_3, r13_4), r13_5, r13_6), r13_7) =>
    if (r13_7 != 0) = true then
      some ((((o1, (r13, r13_2), (r13_3, r13_4), r13_5, r13_6), r13_7)))
    else
      (log_Log_apply_2.e ((r13, r13_2), (r13_3, r13_4), r13_5, r13_6)).bind fun (((r13a, r13a_2), (r13a_3, r13a_4), r13a_5, r13a_6), r13a_7) =>
        if (r13a_7 != 0) = true then
          some ((((o1, (r13a, r13a_2), (r13a_3, r13a_4), r13a_5, r13a_6), r13a_7)))
        else
          some ((((o1, (r13a, r13a_2), (r13a_3, r13a_4), r13a_5, r13a_6), 0)))

theorem log_all.le : ∀ a, Le (log_all.e a) (log_all a) := fun (o1, (o2b, o2c), (o3c, o3d), o4, o5) => by first | exact Le.bind (log_Log_apply_1.le (((o2b, o2c), (o3c, o3d), o4, o5), o1)) (fun (((r13, r13_2), (r13_3, r13_4), r13_5, r13_6), r13_7) => Le.ite (Le.rfl) (Le.bind (log_Log_apply_2.le ((r13, r13_2), (r13_3, r13_4), r13_5, r13_6)) (fun (((r13a, r13a_2), (r13a_3, r13a_4), r13a_5, r13a_6), r13a_7) => Le.ite (Le.rfl) (Le.rfl)))) | (unfold log_all.e log_all; exact Le.bind (log_Log_apply_1.le (((o2b, o2c), (o3c, o3d), o4, o5), o1)) (fun (((r13, r13_2), (r13_3, r13_4), r13_5, r13_6), r13_7) => Le.ite (Le.rfl) (Le.bind (log_Log_apply_2.le ((r13, r13_2), (r13_3, r13_4), r13_5, r13_6)) (fun (((r13a, r13a_2), (r13a_3, r13a_4), r13a_5, r13a_6), r13a_7) => Le.ite (Le.rfl) (Le.rfl)))))

def log_Log_apply.e : (((Bool × Int) × (Int × Int) × List (List UInt8) × List (Int × List UInt8)) × List (Int × List UInt8)) → Option (((Bool × Int) × (Int × Int) × List (List UInt8) × List (Int × List UInt8)) × Int) := fun (((l0b, l0c), (o1c, o1d), o2, o3), c1) =>
  (log_all.e (c1, (l0b, l0c), (o1c, o1d), o2, o3)).bind fun ((r8, (r8_2, r8_3), (r8_4, r8_5), r8_6, r8_7), r8_8) =>
    some (((((r8_2, r8_3), (r8_4, r8_5), r8_6, r8_7), r8_8)))

theorem log_Log_apply.le : ∀ a, Le (log_Log_apply.e a) (log_Log_apply a) := fun (((l0b, l0c), (o1c, o1d), o2, o3), c1) => by first | exact Le.bind (log_all.le (c1, (l0b, l0c), (o1c, o1d), o2, o3)) (fun ((r8, (r8_2, r8_3), (r8_4, r8_5), r8_6, r8_7), r8_8) => Le.rfl) | (unfold log_Log_apply.e log_Log_apply; exact Le.bind (log_all.le (c1, (l0b, l0c), (o1c, o1d), o2, o3)) (fun ((r8, (r8_2, r8_3), (r8_4, r8_5), r8_6, r8_7), r8_8) => Le.rfl))

def log_Open.e : ((Int × Int) × List (List UInt8) × List (Int × List UInt8)) → Option ((((Int × Int) × List (List UInt8) × List (Int × List UInt8)) × Int) ⊕ (((Int × Int) × List (List UInt8) × (List (Int × List UInt8)) × Bool × Int) × Int)) := fun ((s0c, s0d), o1, o2) =>
  (slab_Slab_Size.e (o1, o2, s0c, s0d)).bind fun r12 =>
    if decide (r12 < 64) = true then
      some (.inl ((((s0c, s0d), o1, o2), 1)))
    else
      (log_Log_read_2.e ((false, 0), (s0c, s0d), o1, o2)).bind fun (((r20, r20_2), (r20_3, r20_4), r20_5, r20_6), r20_7, r20_8) =>
        if (!r20_8) = true then
          some (.inl ((((r20_3, r20_4), r20_5, r20_6), 15)))
        else
          if decide ((r20_7.length : Int) > 0) = true then
            (log_Log_apply.e (((r20, r20_2), (r20_3, r20_4), r20_5, r20_6), r20_7)).bind fun (((r30, r30_2), (r30_3, r30_4), r30_5, r30_6), r30_7) =>
              if (r30_7 != 0) = true then
                some (.inl ((((r30_3, r30_4), r30_5, r30_6), r30_7)))
              else
                some (.inr (((((r30_3, r30_4), r30_5, r30_6, r30, r30_2), 0))))
          else
            some (.inr (((((r20_3, r20_4), r20_5, r20_6, r20, r20_2), 0))))

theorem log_Open.le : ∀ a, Le (log_Open.e a) (log_Open a) := fun ((s0c, s0d), o1, o2) => by first | exact Le.bind (slab_Slab_Size.le (o1, o2, s0c, s0d)) (fun r12 => Le.ite (Le.rfl) (Le.bind (log_Log_read_2.le ((false, 0), (s0c, s0d), o1, o2)) (fun (((r20, r20_2), (r20_3, r20_4), r20_5, r20_6), r20_7, r20_8) => Le.ite (Le.rfl) (Le.ite (Le.bind (log_Log_apply.le (((r20, r20_2), (r20_3, r20_4), r20_5, r20_6), r20_7)) (fun (((r30, r30_2), (r30_3, r30_4), r30_5, r30_6), r30_7) => Le.ite (Le.rfl) (Le.rfl))) (Le.rfl))))) | (unfold log_Open.e log_Open; exact Le.bind (slab_Slab_Size.le (o1, o2, s0c, s0d)) (fun r12 => Le.ite (Le.rfl) (Le.bind (log_Log_read_2.le ((false, 0), (s0c, s0d), o1, o2)) (fun (((r20, r20_2), (r20_3, r20_4), r20_5, r20_6), r20_7, r20_8) => Le.ite (Le.rfl) (Le.ite (Le.bind (log_Log_apply.le (((r20, r20_2), (r20_3, r20_4), r20_5, r20_6), r20_7)) (fun (((r30, r30_2), (r30_3, r30_4), r30_5, r30_6), r30_7) => Le.ite (Le.rfl) (Le.rfl))) (Le.rfl))))))

def deal_Begin.e : Unit → Option (Int) := fun _ =>
  some 1

theorem deal_Begin.le : ∀ a, Le (deal_Begin.e a) (deal_Begin a) := fun _ => by first | exact Le.rfl | (unfold deal_Begin.e deal_Begin; exact Le.rfl)

def wainwrightref01_Zeros.e : Int → Option (List UInt8) := fun n0 =>
  if 0 ≤ n0 ∧ n0 ≤ n0 ∧ n0 * (1 : Nat) ≤ 140737488355328 ∧ n0 ≤ 9223372036854775807 then
    some (((List.replicate n0.toNat (0 : Int)).map fun (n : Int) => UInt8.ofNat n.toNat))
  else none

theorem wainwrightref01_Zeros.le : ∀ a, Le (wainwrightref01_Zeros.e a) (wainwrightref01_Zeros a) := fun n0 => by first | exact Le.ite (Le.rfl) (Le.rfl) | (unfold wainwrightref01_Zeros.e wainwrightref01_Zeros; exact Le.ite (Le.rfl) (Le.rfl))

def wainwrightref02_Whole.e : List UInt8 → Option (List UInt8) := fun s0 =>
  if 0 ≤ (if 128 < (s0.length : Int) then 128 else (s0.length : Int)) ∧ (if 128 < (s0.length : Int) then 128 else (s0.length : Int)) ≤ (s0.length : Int) then
    (wainwrightref01_Zeros.e (IntKind.i64.wrap (128 - ((s0.take ((if 128 < (s0.length : Int) then 128 else (s0.length : Int))).toNat).length : Int)))).bind fun r12 =>
      if (s0.take ((if 128 < (s0.length : Int) then 128 else (s0.length : Int))).toNat).length + r12.length ≤ 9223372036854775807 then
        some (((s0.take ((if 128 < (s0.length : Int) then 128 else (s0.length : Int))).toNat) ++ r12))
      else none
  else none

theorem wainwrightref02_Whole.le : ∀ a, Le (wainwrightref02_Whole.e a) (wainwrightref02_Whole a) := fun s0 => by first | exact Le.ite (Le.bind (wainwrightref01_Zeros.le (IntKind.i64.wrap (128 - ((s0.take ((if 128 < (s0.length : Int) then 128 else (s0.length : Int))).toNat).length : Int)))) (fun r12 => Le.ite (Le.rfl) (Le.rfl))) (Le.rfl) | (unfold wainwrightref02_Whole.e wainwrightref02_Whole; exact Le.ite (Le.bind (wainwrightref01_Zeros.le (IntKind.i64.wrap (128 - ((s0.take ((if 128 < (s0.length : Int) then 128 else (s0.length : Int))).toNat).length : Int)))) (fun r12 => Le.ite (Le.rfl) (Le.rfl))) (Le.rfl))

def wainwrightref03_Is.l1e : (Int × Int × Int) → Option ((Int × Int × Int) ⊕ Int) := fun (i1, x5, k6) =>
  if decide (k6 < Int.tmod i1 8) = true then
    some (.inl ((i1, IntKind.i64.wrap (Int.tdiv x5 2), IntKind.i64.wrap (k6 + 1))))
  else
    some (.inr x5)

def wainwrightref03_Is.e : (List UInt8 × Int) → Option (Bool) := fun (m0, i1) =>
  if decide (i1 < 0) = false then
    if decide (i1 ≥ IntKind.i64.wrap (8 * (m0.length : Int))) = true then
      some true
    else
      if 0 ≤ IntKind.i64.wrap (Int.tdiv i1 8) ∧ IntKind.i64.wrap (Int.tdiv i1 8) < (m0.length : Int) then
        (iter wainwrightref03_Is.l1e fuel ((i1, IntKind.i64.wrap (((m0.getD ((IntKind.i64.wrap (Int.tdiv i1 8)).toNat) 0).toNat : Int)), 0))).bind fun x5 =>
          some (((Int.tmod x5 2 == 1)))
      else none
  else
    some true

theorem wainwrightref03_Is.l1.le : ∀ s, Le (wainwrightref03_Is.l1e s) (wainwrightref03_Is.l1 s) := fun (i1, x5, k6) => by first | exact Le.ite (Le.rfl) (Le.rfl) | (unfold wainwrightref03_Is.l1e wainwrightref03_Is.l1; exact Le.ite (Le.rfl) (Le.rfl))
theorem wainwrightref03_Is.le : ∀ a, Le (wainwrightref03_Is.e a) (wainwrightref03_Is a) := fun (m0, i1) => by first | exact Le.ite (Le.ite (Le.rfl) (Le.ite (Le.bind (Le.loop wainwrightref03_Is.l1.le) (fun x5 => Le.rfl)) (Le.rfl))) (Le.rfl) | (unfold wainwrightref03_Is.e wainwrightref03_Is; exact Le.ite (Le.ite (Le.rfl) (Le.ite (Le.bind (Le.loop wainwrightref03_Is.l1.le) (fun x5 => Le.rfl)) (Le.rfl))) (Le.rfl))

def wainwrightref03_Set.e : (List UInt8 × Int × Bool) → Option (List UInt8) := fun (m0, i1, yes2) =>
  if decide (i1 < 0) = false then
    if decide (i1 ≥ IntKind.i64.wrap (8 * (m0.length : Int))) = false then
      (wainwrightref03_Is.e (m0, i1)).bind fun r20 =>
        if (r20 == yes2) = true then
          some m0
        else
          if 0 ≤ IntKind.i64.wrap (Int.tdiv i1 8) ∧ IntKind.i64.wrap (Int.tdiv i1 8) < ((m0.map fun b => (b.toNat : Int)).length : Int) then
            if 0 ≤ IntKind.u64.wrap (Int.tmod i1 8) then
              if 0 ≤ IntKind.i64.wrap (Int.tdiv i1 8) ∧ IntKind.i64.wrap (Int.tdiv i1 8) < ((m0.map fun b => (b.toNat : Int)).length : Int) then
                some ((((m0.map fun b => (b.toNat : Int)).set ((IntKind.i64.wrap (Int.tdiv i1 8)).toNat) (bitsOp .xor .u8 ((m0.map fun b => (b.toNat : Int)).getD ((IntKind.i64.wrap (Int.tdiv i1 8)).toNat) 0) (IntKind.u8.wrap (1 * 2 ^ (min (IntKind.u64.wrap (Int.tmod i1 8)).toNat 8))))).map fun (n : Int) => UInt8.ofNat n.toNat))
              else none
            else none
          else none
    else
      some m0
  else
    some m0

theorem wainwrightref03_Set.le : ∀ a, Le (wainwrightref03_Set.e a) (wainwrightref03_Set a) := fun (m0, i1, yes2) => by first | exact Le.ite (Le.ite (Le.bind (wainwrightref03_Is.le (m0, i1)) (fun r20 => Le.ite (Le.rfl) (Le.ite (Le.ite (Le.ite (Le.rfl) (Le.rfl)) (Le.rfl)) (Le.rfl)))) (Le.rfl)) (Le.rfl) | (unfold wainwrightref03_Set.e wainwrightref03_Set; exact Le.ite (Le.ite (Le.bind (wainwrightref03_Is.le (m0, i1)) (fun r20 => Le.ite (Le.rfl) (Le.ite (Le.ite (Le.ite (Le.rfl) (Le.rfl)) (Le.rfl)) (Le.rfl)))) (Le.rfl)) (Le.rfl))

def wainwrightref10_Marks.l1e : (Int × List UInt8 × Int) → Option ((Int × List UInt8 × Int) ⊕ (List UInt8)) := fun (blocks0, m3, i4) =>
  if decide (i4 < 1024) = true then
    ((
      if decide (i4 < 51) = false then
        some (((blocks0, m3, i4, decide (i4 ≥ blocks0))))
      else
        some (((blocks0, m3, i4, true)))) : Option (Int × List UInt8 × Int × Bool)).bind fun (blocks0, m3, i4, t16) =>
      if t16 = true then
        (wainwrightref03_Set.e (m3, i4, true)).bind fun r19 =>
          some (.inl ((blocks0, r19, IntKind.i64.wrap (i4 + 1))))
      else
        some (.inl ((blocks0, m3, IntKind.i64.wrap (i4 + 1))))
  else
    some (.inr m3)

def wainwrightref10_Marks.e : Int → Option (List UInt8) := fun blocks0 =>
  (wainwrightref02_Whole.e []).bind fun r5 =>
    (iter wainwrightref10_Marks.l1e fuel ((blocks0, r5, 0))).bind fun m3 =>
      some m3

theorem wainwrightref10_Marks.l1.le : ∀ s, Le (wainwrightref10_Marks.l1e s) (wainwrightref10_Marks.l1 s) := fun (blocks0, m3, i4) => by first | exact Le.ite (Le.bind (Le.ite (Le.rfl) (Le.rfl)) (fun (blocks0, m3, i4, t16) => Le.ite (Le.bind (wainwrightref03_Set.le (m3, i4, true)) (fun r19 => Le.rfl)) (Le.rfl))) (Le.rfl) | (unfold wainwrightref10_Marks.l1e wainwrightref10_Marks.l1; exact Le.ite (Le.bind (Le.ite (Le.rfl) (Le.rfl)) (fun (blocks0, m3, i4, t16) => Le.ite (Le.bind (wainwrightref03_Set.le (m3, i4, true)) (fun r19 => Le.rfl)) (Le.rfl))) (Le.rfl))
theorem wainwrightref10_Marks.le : ∀ a, Le (wainwrightref10_Marks.e a) (wainwrightref10_Marks a) := fun blocks0 => by first | exact Le.bind (wainwrightref02_Whole.le []) (fun r5 => Le.bind (Le.loop wainwrightref10_Marks.l1.le) (fun m3 => Le.rfl)) | (unfold wainwrightref10_Marks.e wainwrightref10_Marks; exact Le.bind (wainwrightref02_Whole.le []) (fun r5 => Le.bind (Le.loop wainwrightref10_Marks.l1.le) (fun m3 => Le.rfl)))

def wainwrightref12_Begin.e : List (List UInt8) → Option (List (List UInt8) × List (List UInt8)) := fun image0 =>
  if roomOk ((([] : List (List UInt8))).length + image0.length) 16 then
    if roomOk ((([] : List (List UInt8))).length + image0.length) 16 then
      some ((((([] : List (List UInt8))) ++ image0, (([] : List (List UInt8))) ++ image0)))
    else none
  else none

theorem wainwrightref12_Begin.le : ∀ a, Le (wainwrightref12_Begin.e a) (wainwrightref12_Begin a) := fun image0 => by first | exact Le.ite (Le.ite (Le.rfl) (Le.rfl)) (Le.rfl) | (unfold wainwrightref12_Begin.e wainwrightref12_Begin; exact Le.ite (Le.ite (Le.rfl) (Le.rfl)) (Le.rfl))

def deal_Deal_SetCrown.e : (Int × Int × Int) → Option (Int) := fun c1 =>
  some 1

theorem deal_Deal_SetCrown.le : ∀ a, Le (deal_Deal_SetCrown.e a) (deal_Deal_SetCrown a) := fun c1 => by first | exact Le.rfl | (unfold deal_Deal_SetCrown.e deal_Deal_SetCrown; exact Le.rfl)

def deal_Deal_Write.e : (Int × List UInt8) → Option (Int) := fun (i1, data2) =>
  some 1

theorem deal_Deal_Write.le : ∀ a, Le (deal_Deal_Write.e a) (deal_Deal_Write a) := fun (i1, data2) => by first | exact Le.rfl | (unfold deal_Deal_Write.e deal_Deal_Write; exact Le.rfl)

def wainwrightref10_Right.e : (Int × Int × Int) → Option (Bool) := fun c0 =>
  if decide (c0.2.1 < 64) = false then
    if decide (c0.2.1 > 400) = true then
      some false
    else
      if (c0.1 == 1) = false then
        if (c0.1 == 2) = true then
          some (((c0.2.2 == 0)))
        else
          if (c0.1 == 3) = false then
            if (c0.1 == 4) = true then
              if decide (c0.2.2 ≥ 0) = true then
                some ((decide (c0.2.2 ≤ 32)))
              else
                some false
            else
              some false
          else
            if decide (c0.2.2 ≥ 0) = true then
              some ((decide (c0.2.2 ≤ 32)))
            else
              some false
      else
        some (((c0.2.2 == 0)))
  else
    some false

theorem wainwrightref10_Right.le : ∀ a, Le (wainwrightref10_Right.e a) (wainwrightref10_Right a) := fun c0 => by first | exact Le.ite (Le.ite (Le.rfl) (Le.ite (Le.ite (Le.rfl) (Le.ite (Le.ite (Le.ite (Le.rfl) (Le.rfl)) (Le.rfl)) (Le.ite (Le.rfl) (Le.rfl)))) (Le.rfl))) (Le.rfl) | (unfold wainwrightref10_Right.e wainwrightref10_Right; exact Le.ite (Le.ite (Le.rfl) (Le.ite (Le.ite (Le.rfl) (Le.ite (Le.ite (Le.ite (Le.rfl) (Le.rfl)) (Le.rfl)) (Le.ite (Le.rfl) (Le.rfl)))) (Le.rfl))) (Le.rfl))

def wainwrightref01_Size.l1e : (List Int × Int × Int) → Option ((List Int × Int × Int) ⊕ (Int ⊕ Int)) := fun (widths0, n3, i4) =>
  if decide (i4 < (widths0.length : Int)) = true then
    if 0 ≤ i4 ∧ i4 < (widths0.length : Int) then
      if (widths0.getD i4.toNat 0 != 1) = true then
        if 0 ≤ i4 ∧ i4 < (widths0.length : Int) then
          if (widths0.getD i4.toNat 0 != 2) = true then
            if 0 ≤ i4 ∧ i4 < (widths0.length : Int) then
              if (widths0.getD i4.toNat 0 != 4) = true then
                some (.inr (.inr (-1)))
              else
                if 0 ≤ i4 ∧ i4 < (widths0.length : Int) then
                  some (.inl ((widths0, IntKind.i64.wrap (n3 + (widths0.getD i4.toNat 0)), IntKind.i64.wrap (i4 + 1))))
                else none
            else none
          else
            if 0 ≤ i4 ∧ i4 < (widths0.length : Int) then
              some (.inl ((widths0, IntKind.i64.wrap (n3 + (widths0.getD i4.toNat 0)), IntKind.i64.wrap (i4 + 1))))
            else none
        else none
      else
        if 0 ≤ i4 ∧ i4 < (widths0.length : Int) then
          some (.inl ((widths0, IntKind.i64.wrap (n3 + (widths0.getD i4.toNat 0)), IntKind.i64.wrap (i4 + 1))))
        else none
    else none
  else
    some (.inr (.inl n3))

def wainwrightref01_Size.e : List Int → Option (Int) := fun widths0 =>
  (iter wainwrightref01_Size.l1e fuel ((widths0, 0, 0))).bind fun d => match d with
  | .inl n3 =>
    some n3
  | .inr t2 =>
    some t2

theorem wainwrightref01_Size.l1.le : ∀ s, Le (wainwrightref01_Size.l1e s) (wainwrightref01_Size.l1 s) := fun (widths0, n3, i4) => by first | exact Le.ite (Le.ite (Le.ite (Le.ite (Le.ite (Le.ite (Le.ite (Le.rfl) (Le.ite (Le.rfl) (Le.rfl))) (Le.rfl)) (Le.ite (Le.rfl) (Le.rfl))) (Le.rfl)) (Le.ite (Le.rfl) (Le.rfl))) (Le.rfl)) (Le.rfl) | (unfold wainwrightref01_Size.l1e wainwrightref01_Size.l1; exact Le.ite (Le.ite (Le.ite (Le.ite (Le.ite (Le.ite (Le.ite (Le.rfl) (Le.ite (Le.rfl) (Le.rfl))) (Le.rfl)) (Le.ite (Le.rfl) (Le.rfl))) (Le.rfl)) (Le.ite (Le.rfl) (Le.rfl))) (Le.rfl)) (Le.rfl))
theorem wainwrightref01_Size.le : ∀ a, Le (wainwrightref01_Size.e a) (wainwrightref01_Size a) := fun widths0 => by first | exact Le.bind (Le.loop wainwrightref01_Size.l1.le) (fun d => match d with | .inl n3 => Le.rfl | .inr t2 => Le.rfl) | (unfold wainwrightref01_Size.e wainwrightref01_Size; exact Le.bind (Le.loop wainwrightref01_Size.l1.le) (fun d => match d with | .inl n3 => Le.rfl | .inr t2 => Le.rfl))

def wainwrightref01_most.e : Int → Option (Int) := fun width0 =>
  if (width0 == 1) = true then
    some 255
  else
    if (width0 == 2) = true then
      some 65535
    else
      some 4294967295

theorem wainwrightref01_most.le : ∀ a, Le (wainwrightref01_most.e a) (wainwrightref01_most a) := fun width0 => by first | exact Le.ite (Le.rfl) (Le.ite (Le.rfl) (Le.rfl)) | (unfold wainwrightref01_most.e wainwrightref01_most; exact Le.ite (Le.rfl) (Le.ite (Le.rfl) (Le.rfl)))

def wainwrightref01_Write.l2e : (List Int × List Int × List Int × Int × Int × Int) → Option ((List Int × List Int × List Int × Int × Int × Int) ⊕ (List Int × List Int × List Int × Int)) := fun (out6, widths0, values1, i7, v8, k9) =>
  if 0 ≤ i7 ∧ i7 < (widths0.length : Int) then
    if decide (k9 < widths0.getD i7.toNat 0) = true then
      if roomOk (out6.length + (([IntKind.u8.wrap (Int.tmod v8 256)] : List Int)).length) 1 then
        some (.inl ((out6 ++ (([IntKind.u8.wrap (Int.tmod v8 256)] : List Int)), widths0, values1, i7, IntKind.i64.wrap (Int.tdiv v8 256), IntKind.i64.wrap (k9 + 1))))
      else none
    else
      some (.inr (((out6, widths0, values1, i7))))
  else none

def wainwrightref01_Write.l1e : (List Int × List Int × List Int × Int) → Option ((List Int × List Int × List Int × Int) ⊕ ((List Int) ⊕ (List UInt8 × Int))) := fun (out6, widths0, values1, i7) =>
  if decide (i7 < (widths0.length : Int)) = true then
    if 0 ≤ i7 ∧ i7 < (values1.length : Int) then
      if decide (values1.getD i7.toNat 0 < 0) = false then
        if 0 ≤ i7 ∧ i7 < (values1.length : Int) then
          if 0 ≤ i7 ∧ i7 < (widths0.length : Int) then
            (wainwrightref01_most.e (widths0.getD i7.toNat 0)).bind fun r40 =>
              if decide (values1.getD i7.toNat 0 > r40) = true then
                some (.inr (.inr ((([], 3)))))
              else
                if 0 ≤ i7 ∧ i7 < (values1.length : Int) then
                  (iter wainwrightref01_Write.l2e fuel ((out6, widths0, values1, i7, values1.getD i7.toNat 0, 0))).bind fun (out6, widths0, values1, i7) =>
                    some (.inl ((out6, widths0, values1, IntKind.i64.wrap (i7 + 1))))
                else none
          else none
        else none
      else
        some (.inr (.inr ((([], 3)))))
    else none
  else
    some (.inr (.inl out6))

def wainwrightref01_Write.e : (List Int × List Int) → Option (List UInt8 × Int) := fun (widths0, values1) =>
  (wainwrightref01_Size.e widths0).bind fun r11 =>
    if decide (r11 < 0) = false then
      if ((widths0.length : Int) != (values1.length : Int)) = true then
        some ((([], 1)))
      else
        (iter wainwrightref01_Write.l1e fuel (([], widths0, values1, 0))).bind fun d => match d with
        | .inl out6 =>
          some (((out6.map fun (n : Int) => UInt8.ofNat n.toNat, 0)))
        | .inr ((t4, t5)) =>
          some (((t4, t5)))
    else
      some ((([], 1)))

theorem wainwrightref01_Write.l2.le : ∀ s, Le (wainwrightref01_Write.l2e s) (wainwrightref01_Write.l2 s) := fun (out6, widths0, values1, i7, v8, k9) => by first | exact Le.ite (Le.ite (Le.ite (Le.rfl) (Le.rfl)) (Le.rfl)) (Le.rfl) | (unfold wainwrightref01_Write.l2e wainwrightref01_Write.l2; exact Le.ite (Le.ite (Le.ite (Le.rfl) (Le.rfl)) (Le.rfl)) (Le.rfl))
theorem wainwrightref01_Write.l1.le : ∀ s, Le (wainwrightref01_Write.l1e s) (wainwrightref01_Write.l1 s) := fun (out6, widths0, values1, i7) => by first | exact Le.ite (Le.ite (Le.ite (Le.ite (Le.ite (Le.bind (wainwrightref01_most.le (widths0.getD i7.toNat 0)) (fun r40 => Le.ite (Le.rfl) (Le.ite (Le.bind (Le.loop wainwrightref01_Write.l2.le) (fun (out6, widths0, values1, i7) => Le.rfl)) (Le.rfl)))) (Le.rfl)) (Le.rfl)) (Le.rfl)) (Le.rfl)) (Le.rfl) | (unfold wainwrightref01_Write.l1e wainwrightref01_Write.l1; exact Le.ite (Le.ite (Le.ite (Le.ite (Le.ite (Le.bind (wainwrightref01_most.le (widths0.getD i7.toNat 0)) (fun r40 => Le.ite (Le.rfl) (Le.ite (Le.bind (Le.loop wainwrightref01_Write.l2.le) (fun (out6, widths0, values1, i7) => Le.rfl)) (Le.rfl)))) (Le.rfl)) (Le.rfl)) (Le.rfl)) (Le.rfl)) (Le.rfl))
theorem wainwrightref01_Write.le : ∀ a, Le (wainwrightref01_Write.e a) (wainwrightref01_Write a) := fun (widths0, values1) => by first | exact Le.bind (wainwrightref01_Size.le widths0) (fun r11 => Le.ite (Le.ite (Le.rfl) (Le.bind (Le.loop wainwrightref01_Write.l1.le) (fun d => match d with | .inl out6 => Le.rfl | .inr ((t4, t5)) => Le.rfl))) (Le.rfl)) | (unfold wainwrightref01_Write.e wainwrightref01_Write; exact Le.bind (wainwrightref01_Size.le widths0) (fun r11 => Le.ite (Le.ite (Le.rfl) (Le.bind (Le.loop wainwrightref01_Write.l1.le) (fun d => match d with | .inl out6 => Le.rfl | .inr ((t4, t5)) => Le.rfl))) (Le.rfl)))

def wainwrightref10_Write.e : (Int × Int × Int) → Option (List UInt8 × Int) := fun c0 =>
  (wainwrightref10_Right.e (c0.1, c0.2.1, c0.2.2)).bind fun r7 =>
    if (!r7) = true then
      some ((([], 1)))
    else
      (wainwrightref01_Write.e (([1, 2, 1] : List Int), ([c0.1, c0.2.1, c0.2.2] : List Int))).bind fun (r18, r18_2) =>
        if (([119, 97, 105, 110, 119, 114, 105, 103, 104, 116] : List UInt8)).length + r18.length ≤ 9223372036854775807 then
          (wainwrightref02_Whole.e ((([119, 97, 105, 110, 119, 114, 105, 103, 104, 116] : List UInt8)) ++ r18)).bind fun r23 =>
            some (((r23, 0)))
        else none

theorem wainwrightref10_Write.le : ∀ a, Le (wainwrightref10_Write.e a) (wainwrightref10_Write a) := fun c0 => by first | exact Le.bind (wainwrightref10_Right.le (c0.1, c0.2.1, c0.2.2)) (fun r7 => Le.ite (Le.rfl) (Le.bind (wainwrightref01_Write.le (([1, 2, 1] : List Int), ([c0.1, c0.2.1, c0.2.2] : List Int))) (fun (r18, r18_2) => Le.ite (Le.bind (wainwrightref02_Whole.le ((([119, 97, 105, 110, 119, 114, 105, 103, 104, 116] : List UInt8)) ++ r18)) (fun r23 => Le.rfl)) (Le.rfl)))) | (unfold wainwrightref10_Write.e wainwrightref10_Write; exact Le.bind (wainwrightref10_Right.le (c0.1, c0.2.1, c0.2.2)) (fun r7 => Le.ite (Le.rfl) (Le.bind (wainwrightref01_Write.le (([1, 2, 1] : List Int), ([c0.1, c0.2.1, c0.2.2] : List Int))) (fun (r18, r18_2) => Le.ite (Le.bind (wainwrightref02_Whole.le ((([119, 97, 105, 110, 119, 114, 105, 103, 104, 116] : List UInt8)) ++ r18)) (fun r23 => Le.rfl)) (Le.rfl)))))

def wainwrightref12_Deal_SetCrown.e : ((List (List UInt8) × List (List UInt8)) × Int × Int × Int) → Option ((List (List UInt8) × List (List UInt8)) × Int) := fun ((o1, o2), c1) =>
  (wainwrightref10_Write.e (c1.1, c1.2.1, c1.2.2)).bind fun (r9, r9_2) =>
    if (r9_2 != 0) = false then
      if decide (c1.2.1 > (o2.length : Int)) = true then
        some ((((o1, o2), 1)))
      else
        if 0 ≤ (0 : Int) ∧ (0 : Int) < (o2.length : Int) then
          some ((((o1, o2.set 0 r9), 0)))
        else none
    else
      some ((((o1, o2), 1)))

theorem wainwrightref12_Deal_SetCrown.le : ∀ a, Le (wainwrightref12_Deal_SetCrown.e a) (wainwrightref12_Deal_SetCrown a) := fun ((o1, o2), c1) => by first | exact Le.bind (wainwrightref10_Write.le (c1.1, c1.2.1, c1.2.2)) (fun (r9, r9_2) => Le.ite (Le.ite (Le.rfl) (Le.ite (Le.rfl) (Le.rfl))) (Le.rfl)) | (unfold wainwrightref12_Deal_SetCrown.e wainwrightref12_Deal_SetCrown; exact Le.bind (wainwrightref10_Write.le (c1.1, c1.2.1, c1.2.2)) (fun (r9, r9_2) => Le.ite (Le.ite (Le.rfl) (Le.ite (Le.rfl) (Le.rfl))) (Le.rfl)))

def wainwrightref12_Deal_there.e : ((List (List UInt8) × List (List UInt8)) × Int) → Option (Bool) := fun (d0, i1) =>
  if decide (i1 ≥ 0) = true then
    if decide (i1 < (d0.2.length : Int)) = true then
      if decide (i1 < 1) = false then
        some ((decide (i1 > 41)))
      else
        some true
    else
      some false
  else
    some false

theorem wainwrightref12_Deal_there.le : ∀ a, Le (wainwrightref12_Deal_there.e a) (wainwrightref12_Deal_there a) := fun (d0, i1) => by first | exact Le.ite (Le.ite (Le.ite (Le.rfl) (Le.rfl)) (Le.rfl)) (Le.rfl) | (unfold wainwrightref12_Deal_there.e wainwrightref12_Deal_there; exact Le.ite (Le.ite (Le.ite (Le.rfl) (Le.rfl)) (Le.rfl)) (Le.rfl))

def wainwrightref12_Deal_Write.e : ((List (List UInt8) × List (List UInt8)) × Int × List UInt8) → Option ((List (List UInt8) × List (List UInt8)) × Int) := fun ((o1, o2), i1, data2) =>
  (wainwrightref12_Deal_there.e ((o1, o2), i1)).bind fun r9 =>
    if (!r9) = false then
      if decide ((data2.length : Int) > 128) = true then
        some ((((o1, o2), 1)))
      else
        (wainwrightref02_Whole.e data2).bind fun r22 =>
          if 0 ≤ i1 ∧ i1 < (o2.length : Int) then
            some ((((o1, o2.set i1.toNat r22), 0)))
          else none
    else
      some ((((o1, o2), 1)))

theorem wainwrightref12_Deal_Write.le : ∀ a, Le (wainwrightref12_Deal_Write.e a) (wainwrightref12_Deal_Write a) := fun ((o1, o2), i1, data2) => by first | exact Le.bind (wainwrightref12_Deal_there.le ((o1, o2), i1)) (fun r9 => Le.ite (Le.ite (Le.rfl) (Le.bind (wainwrightref02_Whole.le data2) (fun r22 => Le.ite (Le.rfl) (Le.rfl)))) (Le.rfl)) | (unfold wainwrightref12_Deal_Write.e wainwrightref12_Deal_Write; exact Le.bind (wainwrightref12_Deal_there.le ((o1, o2), i1)) (fun r9 => Le.ite (Le.ite (Le.rfl) (Le.bind (wainwrightref02_Whole.le data2) (fun r22 => Le.ite (Le.rfl) (Le.rfl)))) (Le.rfl)))

def deal_Begin_2.e : ((Bool × Int) × (Int × Int) × List (List UInt8) × List (Int × List UInt8)) → Option (((Bool × Int) × (Int × Int) × List (List UInt8) × (List (Int × List UInt8)) × List (Int × List UInt8)) × Int) := fun ((l0b, l0c), (o1c, o1d), o2, o3) =>
  some (((((l0b, l0c), (o1c, o1d), o2, o3, ([] : List (Int × List UInt8))), 0)))

theorem deal_Begin_2.le : ∀ a, Le (deal_Begin_2.e a) (deal_Begin_2 a) := fun ((l0b, l0c), (o1c, o1d), o2, o3) => by first | exact Le.rfl | (unfold deal_Begin_2.e deal_Begin_2; exact Le.rfl)

def log_Log_Size.e : ((List (List UInt8) × (List (Int × List UInt8)) × Int × Int) × Bool × Int) → Option (Int) := fun l0 =>
  (slab_Slab_Size.e l0.1).bind fun r9 =>
    some r9

theorem log_Log_Size.le : ∀ a, Le (log_Log_Size.e a) (log_Log_Size a) := fun l0 => by first | exact Le.bind (slab_Slab_Size.le l0.1) (fun r9 => Le.rfl) | (unfold log_Log_Size.e log_Log_Size; exact Le.bind (slab_Slab_Size.le l0.1) (fun r9 => Le.rfl))

def crown_Right.e : (Int × Int × Int) → Option (Bool) := fun c0 =>
  if decide (c0.2.1 < 64) = false then
    if decide (c0.2.1 > 400) = true then
      some false
    else
      ((
        if (c0.1 == 1) = true then
          some ((((c0.1, c0.2.1, c0.2.2), c0.1, true)))
        else
          some ((((c0.1, c0.2.1, c0.2.2), c0.1, (c0.1 == 2))))) : Option ((Int × Int × Int) × Int × Bool)).bind fun ((c1a, c1b, c1c), t12, t13) =>
        if t13 = true then
          some (((c1c == 0)))
        else
          ((
            if (t12 == 3) = true then
              some ((((c1a, c1b, c1c), true)))
            else
              some ((((c1a, c1b, c1c), (t12 == 4))))) : Option ((Int × Int × Int) × Bool)).bind fun ((c1a, c1b, c1c), t19) =>
            if t19 = true then
              if decide (c1c ≥ 0) = true then
                some ((decide (c1c ≤ 32)))
              else
                some false
            else
              some false
  else
    some false

theorem crown_Right.le : ∀ a, Le (crown_Right.e a) (crown_Right a) := fun c0 => by first | exact Le.ite (Le.ite (Le.rfl) (Le.bind (Le.ite (Le.rfl) (Le.rfl)) (fun ((c1a, c1b, c1c), t12, t13) => Le.ite (Le.rfl) (Le.bind (Le.ite (Le.rfl) (Le.rfl)) (fun ((c1a, c1b, c1c), t19) => Le.ite (Le.ite (Le.rfl) (Le.rfl)) (Le.rfl)))))) (Le.rfl) | (unfold crown_Right.e crown_Right; exact Le.ite (Le.ite (Le.rfl) (Le.bind (Le.ite (Le.rfl) (Le.rfl)) (fun ((c1a, c1b, c1c), t12, t13) => Le.ite (Le.rfl) (Le.bind (Le.ite (Le.rfl) (Le.rfl)) (fun ((c1a, c1b, c1c), t19) => Le.ite (Le.ite (Le.rfl) (Le.rfl)) (Le.rfl)))))) (Le.rfl))

def crown_widths.e : Unit → Option (List Int) := fun _ =>
  some ((([1, 2, 1] : List Int)))

theorem crown_widths.le : ∀ a, Le (crown_widths.e a) (crown_widths a) := fun _ => by first | exact Le.rfl | (unfold crown_widths.e crown_widths; exact Le.rfl)

def crown_Write.e : (Int × Int × Int) → Option (List UInt8 × Int) := fun c0 =>
  (crown_Right.e (c0.1, c0.2.1, c0.2.2)).bind fun r7 =>
    if (!r7) = true then
      some ((([], 1)))
    else
      (crown_widths.e ()).bind fun r10 =>
        (mould_Write.e (r10, ([c0.1, c0.2.1, c0.2.2] : List Int))).bind fun (r18, r18_2) =>
          if (r18_2 != 0) = true then
            some ((([], r18_2)))
          else
            if (([119, 97, 105, 110, 119, 114, 105, 103, 104, 116] : List UInt8)).length + r18.length ≤ 9223372036854775807 then
              (mould_Pad.e ((([119, 97, 105, 110, 119, 114, 105, 103, 104, 116] : List UInt8)) ++ r18, 128)).bind fun (r26, r26_2) =>
                some (((r26, r26_2)))
            else none

theorem crown_Write.le : ∀ a, Le (crown_Write.e a) (crown_Write a) := fun c0 => by first | exact Le.bind (crown_Right.le (c0.1, c0.2.1, c0.2.2)) (fun r7 => Le.ite (Le.rfl) (Le.bind (crown_widths.le ()) (fun r10 => Le.bind (mould_Write.le (r10, ([c0.1, c0.2.1, c0.2.2] : List Int))) (fun (r18, r18_2) => Le.ite (Le.rfl) (Le.ite (Le.bind (mould_Pad.le ((([119, 97, 105, 110, 119, 114, 105, 103, 104, 116] : List UInt8)) ++ r18, 128)) (fun (r26, r26_2) => Le.rfl)) (Le.rfl)))))) | (unfold crown_Write.e crown_Write; exact Le.bind (crown_Right.le (c0.1, c0.2.1, c0.2.2)) (fun r7 => Le.ite (Le.rfl) (Le.bind (crown_widths.le ()) (fun r10 => Le.bind (mould_Write.le (r10, ([c0.1, c0.2.1, c0.2.2] : List Int))) (fun (r18, r18_2) => Le.ite (Le.rfl) (Le.ite (Le.bind (mould_Pad.le ((([119, 97, 105, 110, 119, 114, 105, 103, 104, 116] : List UInt8)) ++ r18, 128)) (fun (r26, r26_2) => Le.rfl)) (Le.rfl)))))))

def deal_written_there.e : ((((List (List UInt8) × (List (Int × List UInt8)) × Int × Int) × Bool × Int) × List (Int × List UInt8)) × Int) → Option (Bool) := fun (w0, i1) =>
  if decide (i1 ≥ 0) = true then
    (log_Log_Size.e w0.1).bind fun r13 =>
      if decide (i1 < r13) = true then
        if decide (i1 < 1) = false then
          some ((decide (i1 > 41)))
        else
          some true
      else
        some false
  else
    some false

theorem deal_written_there.le : ∀ a, Le (deal_written_there.e a) (deal_written_there a) := fun (w0, i1) => by first | exact Le.ite (Le.bind (log_Log_Size.le w0.1) (fun r13 => Le.ite (Le.ite (Le.rfl) (Le.rfl)) (Le.rfl))) (Le.rfl) | (unfold deal_written_there.e deal_written_there; exact Le.ite (Le.bind (log_Log_Size.le w0.1) (fun r13 => Le.ite (Le.ite (Le.rfl) (Le.rfl)) (Le.rfl))) (Le.rfl))

def deal_Deal_Write_1.e : (((Bool × Int) × (List (Int × List UInt8)) × (Int × Int) × List (List UInt8) × List (Int × List UInt8)) × Int × List UInt8) → Option (((Bool × Int) × (List (Int × List UInt8)) × (Int × Int) × List (List UInt8) × List (Int × List UInt8)) × Int) := fun (((o1b, o1c), o2, (o3c, o3d), o4, o5), i1, data2) =>
  (deal_written_there.e ((((o4, o5, o3c, o3d), o1b, o1c), o2), i1)).bind fun r16 =>
    if (!r16) = true then
      some (((((o1b, o1c), o2, (o3c, o3d), o4, o5), 1)))
    else
      (mould_Pad.e (data2, 128)).bind fun (r21, r21_2) =>
        if (r21_2 != 0) = true then
          some (((((o1b, o1c), o2, (o3c, o3d), o4, o5), 1)))
        else
          some (((((o1b, o1c), mput (K := I) (V := .str) o2 i1 r21, (o3c, o3d), o4, o5), 0)))

theorem deal_Deal_Write_1.le : ∀ a, Le (deal_Deal_Write_1.e a) (deal_Deal_Write_1 a) := fun (((o1b, o1c), o2, (o3c, o3d), o4, o5), i1, data2) => by first | exact Le.bind (deal_written_there.le ((((o4, o5, o3c, o3d), o1b, o1c), o2), i1)) (fun r16 => Le.ite (Le.rfl) (Le.bind (mould_Pad.le (data2, 128)) (fun (r21, r21_2) => Le.ite (Le.rfl) (Le.rfl)))) | (unfold deal_Deal_Write_1.e deal_Deal_Write_1; exact Le.bind (deal_written_there.le ((((o4, o5, o3c, o3d), o1b, o1c), o2), i1)) (fun r16 => Le.ite (Le.rfl) (Le.bind (mould_Pad.le (data2, 128)) (fun (r21, r21_2) => Le.ite (Le.rfl) (Le.rfl)))))

def deal_Deal_SetCrown_1.e : (((Bool × Int) × (List (Int × List UInt8)) × (Int × Int) × List (List UInt8) × List (Int × List UInt8)) × Int × Int × Int) → Option (((Bool × Int) × (List (Int × List UInt8)) × (Int × Int) × List (List UInt8) × List (Int × List UInt8)) × Int) := fun (((o1b, o1c), o2, (o3c, o3d), o4, o5), c1) =>
  (log_Log_Size.e ((o4, o5, o3c, o3d), o1b, o1c)).bind fun r17 =>
    if decide (c1.2.1 > r17) = true then
      some (((((o1b, o1c), o2, (o3c, o3d), o4, o5), 1)))
    else
      (crown_Write.e (c1.1, c1.2.1, c1.2.2)).bind fun (r22, r22_2) =>
        if (r22_2 != 0) = true then
          some (((((o1b, o1c), o2, (o3c, o3d), o4, o5), r22_2)))
        else
          (deal_Deal_Write_1.e (((o1b, o1c), o2, (o3c, o3d), o4, o5), 0, r22)).bind fun (((r30, r30_2), r30_3, (r30_4, r30_5), r30_6, r30_7), r30_8) =>
            some (((((r30, r30_2), r30_3, (r30_4, r30_5), r30_6, r30_7), r30_8)))

theorem deal_Deal_SetCrown_1.le : ∀ a, Le (deal_Deal_SetCrown_1.e a) (deal_Deal_SetCrown_1 a) := fun (((o1b, o1c), o2, (o3c, o3d), o4, o5), c1) => by first | exact Le.bind (log_Log_Size.le ((o4, o5, o3c, o3d), o1b, o1c)) (fun r17 => Le.ite (Le.rfl) (Le.bind (crown_Write.le (c1.1, c1.2.1, c1.2.2)) (fun (r22, r22_2) => Le.ite (Le.rfl) (Le.bind (deal_Deal_Write_1.le (((o1b, o1c), o2, (o3c, o3d), o4, o5), 0, r22)) (fun (((r30, r30_2), r30_3, (r30_4, r30_5), r30_6, r30_7), r30_8) => Le.rfl))))) | (unfold deal_Deal_SetCrown_1.e deal_Deal_SetCrown_1; exact Le.bind (log_Log_Size.le ((o4, o5, o3c, o3d), o1b, o1c)) (fun r17 => Le.ite (Le.rfl) (Le.bind (crown_Write.le (c1.1, c1.2.1, c1.2.2)) (fun (r22, r22_2) => Le.ite (Le.rfl) (Le.bind (deal_Deal_Write_1.le (((o1b, o1c), o2, (o3c, o3d), o4, o5), 0, r22)) (fun (((r30, r30_2), r30_3, (r30_4, r30_5), r30_6, r30_7), r30_8) => Le.rfl))))))

def wainwrightlaw13_begin.e : (Int × List UInt8) → Option (Unit ⊕ (List (List UInt8) × List (List UInt8)) ⊕ ((Bool × Int) × (List (Int × List UInt8)) × List (List UInt8) × List (List UInt8) × (Int × Int) × List (List UInt8) × List (Int × List UInt8))) := fun (n0, m1) =>
  (slab_New.e n0).bind fun ((r13, r13_2), r13_3, r13_4) =>
    (log_Open.e ((r13, r13_2), r13_3, r13_4)).bind fun d => match d with
    | .inl (((r16, r16_2), r16_3, r16_4), r16_5) =>
      if (r16_5 != 0) = true then
        some (.inl ())
      else
        (deal_Begin.e ()).bind fun r23 =>
          if (r23 != 0) = true then
            some (.inl ())
          else
            ((
              if (m1 == []) = true then
                (wainwrightref10_Marks.e n0).bind fun r31 =>
                  some (((((r16, r16_2), r16_3, r16_4), n0, r31)))
              else
                some (((((r16, r16_2), r16_3, r16_4), n0, m1)))) : Option (((Int × Int) × List (List UInt8) × List (Int × List UInt8)) × Int × List UInt8)).bind fun (((s5c, s5d), o1, o2), n0, m1) =>
              (slab_Image ((s5c, s5d), o1, o2)).bind fun ((_, _, _), r33) =>
                (wainwrightref12_Begin.e r33).bind fun (r34, r34_2) =>
                  (deal_Deal_SetCrown.e (1, n0, 0)).bind fun r39 =>
                    if (r39 != 0) = false then
                      if 0 ≤ (if 128 < (m1.length : Int) then 128 else (m1.length : Int)) ∧ (if 128 < (m1.length : Int) then 128 else (m1.length : Int)) ≤ (m1.length : Int) then
                        (deal_Deal_Write.e (42, m1.take ((if 128 < (m1.length : Int) then 128 else (m1.length : Int))).toNat)).bind fun r48 =>
                          if (r48 != 0) = true then
                            some (.inl ())
                          else
                            (wainwrightref12_Deal_SetCrown.e ((r34, r34_2), 1, n0, 0)).bind fun ((r53, r53_2), r53_3) =>
                              if 0 ≤ (if 128 < (m1.length : Int) then 128 else (m1.length : Int)) ∧ (if 128 < (m1.length : Int) then 128 else (m1.length : Int)) ≤ (m1.length : Int) then
                                (wainwrightref12_Deal_Write.e ((r53, r53_2), 42, m1.take ((if 128 < (m1.length : Int) then 128 else (m1.length : Int))).toNat)).bind fun ((r60, r60_2), r60_3) =>
                                  some (.inr (.inl ((r60, r60_2))))
                              else none
                      else none
                    else
                      some (.inl ())
    | .inr ((((r16b, r16_2b), r16_3b, r16_4b, r16_5b, r16_6b), r16_7b)) =>
      if (r16_7b != 0) = true then
        some (.inl ())
      else
        (deal_Begin_2.e ((r16_5b, r16_6b), (r16b, r16_2b), r16_3b, r16_4b)).bind fun (((r23a, r23a_2), (r23a_3, r23a_4), r23a_5, r23a_6, r23a_7), r23a_8) =>
          if (r23a_8 != 0) = true then
            some (.inl ())
          else
            ((
              if (m1 == []) = true then
                (wainwrightref10_Marks.e n0).bind fun r31a =>
                  some (((((r23a_3, r23a_4), r23a_5, r23a_6, (r23a, r23a_2), r23a_7), n0, r31a)))
              else
                some (((((r23a_3, r23a_4), r23a_5, r23a_6, (r23a, r23a_2), r23a_7), n0, m1)))) : Option (((Int × Int) × List (List UInt8) × (List (Int × List UInt8)) × (Bool × Int) × List (Int × List UInt8)) × Int × List UInt8)).bind fun (((s5c, s5d), o2, o3, (o4b, o4c), o5), n0, m1) =>
              (slab_Image ((s5c, s5d), o2, o3)).bind fun ((_, _, _), r33a) =>
                (wainwrightref12_Begin.e r33a).bind fun (r34a, r34a_2) =>
                  (deal_Deal_SetCrown_1.e (((o4b, o4c), o5, (s5c, s5d), o2, o3), 1, n0, 0)).bind fun (((r39a, r39a_2), r39a_3, (r39a_4, r39a_5), r39a_6, r39a_7), r39a_8) =>
                    if (r39a_8 != 0) = false then
                      if 0 ≤ (if 128 < (m1.length : Int) then 128 else (m1.length : Int)) ∧ (if 128 < (m1.length : Int) then 128 else (m1.length : Int)) ≤ (m1.length : Int) then
                        (deal_Deal_Write_1.e (((r39a, r39a_2), r39a_3, (r39a_4, r39a_5), r39a_6, r39a_7), 42, m1.take ((if 128 < (m1.length : Int) then 128 else (m1.length : Int))).toNat)).bind fun (((r48a, r48a_2), r48a_3, (r48a_4, r48a_5), r48a_6, r48a_7), r48a_8) =>
                          if (r48a_8 != 0) = true then
                            some (.inl ())
                          else
                            (wainwrightref12_Deal_SetCrown.e ((r34a, r34a_2), 1, n0, 0)).bind fun ((r53a, r53a_2), r53a_3) =>
                              if 0 ≤ (if 128 < (m1.length : Int) then 128 else (m1.length : Int)) ∧ (if 128 < (m1.length : Int) then 128 else (m1.length : Int)) ≤ (m1.length : Int) then
                                (wainwrightref12_Deal_Write.e ((r53a, r53a_2), 42, m1.take ((if 128 < (m1.length : Int) then 128 else (m1.length : Int))).toNat)).bind fun ((r60a, r60a_2), r60a_3) =>
                                  some (.inr (.inr ((((r48a, r48a_2), r48a_3, r60a, r60a_2, (r48a_4, r48a_5), r48a_6, r48a_7)))))
                              else none
                      else none
                    else
                      some (.inl ())

theorem wainwrightlaw13_begin.le : ∀ a, Le (wainwrightlaw13_begin.e a) (wainwrightlaw13_begin a) := fun (n0, m1) => by first | exact Le.bind (slab_New.le n0) (fun ((r13, r13_2), r13_3, r13_4) => Le.bind (log_Open.le ((r13, r13_2), r13_3, r13_4)) (fun d => match d with | .inl (((r16, r16_2), r16_3, r16_4), r16_5) => Le.ite (Le.rfl) (Le.bind (deal_Begin.le ()) (fun r23 => Le.ite (Le.rfl) (Le.bind (Le.ite (Le.bind (wainwrightref10_Marks.le n0) (fun r31 => Le.rfl)) (Le.rfl)) (fun (((s5c, s5d), o1, o2), n0, m1) => Le.bind Le.rfl (fun ((_, _, _), r33) => Le.bind (wainwrightref12_Begin.le r33) (fun (r34, r34_2) => Le.bind (deal_Deal_SetCrown.le (1, n0, 0)) (fun r39 => Le.ite (Le.ite (Le.bind (deal_Deal_Write.le (42, m1.take ((if 128 < (m1.length : Int) then 128 else (m1.length : Int))).toNat)) (fun r48 => Le.ite (Le.rfl) (Le.bind (wainwrightref12_Deal_SetCrown.le ((r34, r34_2), 1, n0, 0)) (fun ((r53, r53_2), r53_3) => Le.ite (Le.bind (wainwrightref12_Deal_Write.le ((r53, r53_2), 42, m1.take ((if 128 < (m1.length : Int) then 128 else (m1.length : Int))).toNat)) (fun ((r60, r60_2), r60_3) => Le.rfl)) (Le.rfl))))) (Le.rfl)) (Le.rfl)))))))) | .inr ((((r16b, r16_2b), r16_3b, r16_4b, r16_5b, r16_6b), r16_7b)) => Le.ite (Le.rfl) (Le.bind (deal_Begin_2.le ((r16_5b, r16_6b), (r16b, r16_2b), r16_3b, r16_4b)) (fun (((r23a, r23a_2), (r23a_3, r23a_4), r23a_5, r23a_6, r23a_7), r23a_8) => Le.ite (Le.rfl) (Le.bind (Le.ite (Le.bind (wainwrightref10_Marks.le n0) (fun r31a => Le.rfl)) (Le.rfl)) (fun (((s5c, s5d), o2, o3, (o4b, o4c), o5), n0, m1) => Le.bind Le.rfl (fun ((_, _, _), r33a) => Le.bind (wainwrightref12_Begin.le r33a) (fun (r34a, r34a_2) => Le.bind (deal_Deal_SetCrown_1.le (((o4b, o4c), o5, (s5c, s5d), o2, o3), 1, n0, 0)) (fun (((r39a, r39a_2), r39a_3, (r39a_4, r39a_5), r39a_6, r39a_7), r39a_8) => Le.ite (Le.ite (Le.bind (deal_Deal_Write_1.le (((r39a, r39a_2), r39a_3, (r39a_4, r39a_5), r39a_6, r39a_7), 42, m1.take ((if 128 < (m1.length : Int) then 128 else (m1.length : Int))).toNat)) (fun (((r48a, r48a_2), r48a_3, (r48a_4, r48a_5), r48a_6, r48a_7), r48a_8) => Le.ite (Le.rfl) (Le.bind (wainwrightref12_Deal_SetCrown.le ((r34a, r34a_2), 1, n0, 0)) (fun ((r53a, r53a_2), r53a_3) => Le.ite (Le.bind (wainwrightref12_Deal_Write.le ((r53a, r53a_2), 42, m1.take ((if 128 < (m1.length : Int) then 128 else (m1.length : Int))).toNat)) (fun ((r60a, r60a_2), r60a_3) => Le.rfl)) (Le.rfl))))) (Le.rfl)) (Le.rfl)))))))))) | (unfold wainwrightlaw13_begin.e wainwrightlaw13_begin; exact Le.bind (slab_New.le n0) (fun ((r13, r13_2), r13_3, r13_4) => Le.bind (log_Open.le ((r13, r13_2), r13_3, r13_4)) (fun d => match d with | .inl (((r16, r16_2), r16_3, r16_4), r16_5) => Le.ite (Le.rfl) (Le.bind (deal_Begin.le ()) (fun r23 => Le.ite (Le.rfl) (Le.bind (Le.ite (Le.bind (wainwrightref10_Marks.le n0) (fun r31 => Le.rfl)) (Le.rfl)) (fun (((s5c, s5d), o1, o2), n0, m1) => Le.bind Le.rfl (fun ((_, _, _), r33) => Le.bind (wainwrightref12_Begin.le r33) (fun (r34, r34_2) => Le.bind (deal_Deal_SetCrown.le (1, n0, 0)) (fun r39 => Le.ite (Le.ite (Le.bind (deal_Deal_Write.le (42, m1.take ((if 128 < (m1.length : Int) then 128 else (m1.length : Int))).toNat)) (fun r48 => Le.ite (Le.rfl) (Le.bind (wainwrightref12_Deal_SetCrown.le ((r34, r34_2), 1, n0, 0)) (fun ((r53, r53_2), r53_3) => Le.ite (Le.bind (wainwrightref12_Deal_Write.le ((r53, r53_2), 42, m1.take ((if 128 < (m1.length : Int) then 128 else (m1.length : Int))).toNat)) (fun ((r60, r60_2), r60_3) => Le.rfl)) (Le.rfl))))) (Le.rfl)) (Le.rfl)))))))) | .inr ((((r16b, r16_2b), r16_3b, r16_4b, r16_5b, r16_6b), r16_7b)) => Le.ite (Le.rfl) (Le.bind (deal_Begin_2.le ((r16_5b, r16_6b), (r16b, r16_2b), r16_3b, r16_4b)) (fun (((r23a, r23a_2), (r23a_3, r23a_4), r23a_5, r23a_6, r23a_7), r23a_8) => Le.ite (Le.rfl) (Le.bind (Le.ite (Le.bind (wainwrightref10_Marks.le n0) (fun r31a => Le.rfl)) (Le.rfl)) (fun (((s5c, s5d), o2, o3, (o4b, o4c), o5), n0, m1) => Le.bind Le.rfl (fun ((_, _, _), r33a) => Le.bind (wainwrightref12_Begin.le r33a) (fun (r34a, r34a_2) => Le.bind (deal_Deal_SetCrown_1.le (((o4b, o4c), o5, (s5c, s5d), o2, o3), 1, n0, 0)) (fun (((r39a, r39a_2), r39a_3, (r39a_4, r39a_5), r39a_6, r39a_7), r39a_8) => Le.ite (Le.ite (Le.bind (deal_Deal_Write_1.le (((r39a, r39a_2), r39a_3, (r39a_4, r39a_5), r39a_6, r39a_7), 42, m1.take ((if 128 < (m1.length : Int) then 128 else (m1.length : Int))).toNat)) (fun (((r48a, r48a_2), r48a_3, (r48a_4, r48a_5), r48a_6, r48a_7), r48a_8) => Le.ite (Le.rfl) (Le.bind (wainwrightref12_Deal_SetCrown.le ((r34a, r34a_2), 1, n0, 0)) (fun ((r53a, r53a_2), r53a_3) => Le.ite (Le.bind (wainwrightref12_Deal_Write.le ((r53a, r53a_2), 42, m1.take ((if 128 < (m1.length : Int) then 128 else (m1.length : Int))).toNat)) (fun ((r60a, r60a_2), r60a_3) => Le.rfl)) (Le.rfl))))) (Le.rfl)) (Le.rfl)))))))))))

def deal_Deal_Crown.e : Unit → Option ((Int × Int × Int) × Int) := fun _ =>
  some ((((0, 0, 0), 1)))

theorem deal_Deal_Crown.le : ∀ a, Le (deal_Deal_Crown.e a) (deal_Deal_Crown a) := fun _ => by first | exact Le.rfl | (unfold deal_Deal_Crown.e deal_Deal_Crown; exact Le.rfl)

def deal_Deal_Read.e : Int → Option (List UInt8 × Int) := fun i1 =>
  some ((([], 1)))

theorem deal_Deal_Read.le : ∀ a, Le (deal_Deal_Read.e a) (deal_Deal_Read a) := fun i1 => by first | exact Le.rfl | (unfold deal_Deal_Read.e deal_Deal_Read; exact Le.rfl)

def stock_open.e : Unit → Option (Int ⊕ ((Int × Int × Int × List UInt8) × Int)) := fun _ =>
  (deal_Deal_Crown.e ()).bind fun (r9, r9_2) =>
    if (r9_2 != 0) = true then
      some (.inl r9_2)
    else
      (deal_Deal_Read.e 42).bind fun (r17, r17_2) =>
        if (r17_2 != 0) = true then
          some (.inl r17_2)
        else
          some (.inr ((((r9.1, r9.2.1, r9.2.2, r17), 0))))

theorem stock_open.le : ∀ a, Le (stock_open.e a) (stock_open a) := fun _ => by first | exact Le.bind (deal_Deal_Crown.le ()) (fun (r9, r9_2) => Le.ite (Le.rfl) (Le.bind (deal_Deal_Read.le 42) (fun (r17, r17_2) => Le.ite (Le.rfl) (Le.rfl)))) | (unfold stock_open.e stock_open; exact Le.bind (deal_Deal_Crown.le ()) (fun (r9, r9_2) => Le.ite (Le.rfl) (Le.bind (deal_Deal_Read.le 42) (fun (r17, r17_2) => Le.ite (Le.rfl) (Le.rfl)))))

def marks_there.e : (List UInt8 × Int) → Option (Bool) := fun (m0, i1) =>
  if decide (i1 ≥ 0) = true then
    some ((decide (i1 < IntKind.i64.wrap (8 * (m0.length : Int)))))
  else
    some false

theorem marks_there.le : ∀ a, Le (marks_there.e a) (marks_there a) := fun (m0, i1) => by first | exact Le.ite (Le.rfl) (Le.rfl) | (unfold marks_there.e marks_there; exact Le.ite (Le.rfl) (Le.rfl))

def marks_Is.e : (List UInt8 × Int) → Option (Bool) := fun (m0, i1) =>
  (marks_there.e (m0, i1)).bind fun r7 =>
    if (!r7) = false then
      if 0 ≤ IntKind.i64.wrap (Int.tdiv i1 8) ∧ IntKind.i64.wrap (Int.tdiv i1 8) < (m0.length : Int) then
        if 0 ≤ Int.tmod i1 8 then
          some (((bitsOp .and .u8 (Int.fdiv ((m0.getD ((IntKind.i64.wrap (Int.tdiv i1 8)).toNat) 0).toNat : Int) (2 ^ (min (Int.tmod i1 8).toNat 8))) 1 == 1)))
        else none
      else none
    else
      some true

theorem marks_Is.le : ∀ a, Le (marks_Is.e a) (marks_Is a) := fun (m0, i1) => by first | exact Le.bind (marks_there.le (m0, i1)) (fun r7 => Le.ite (Le.ite (Le.ite (Le.rfl) (Le.rfl)) (Le.rfl)) (Le.rfl)) | (unfold marks_Is.e marks_Is; exact Le.bind (marks_there.le (m0, i1)) (fun r7 => Le.ite (Le.ite (Le.ite (Le.rfl) (Le.rfl)) (Le.rfl)) (Le.rfl)))

def marks_Set.e : (List UInt8 × Int × Bool) → Option (List UInt8) := fun (m0, i1, yes2) =>
  (marks_there.e (m0, i1)).bind fun r10 =>
    if (!r10) = false then
      (marks_Is.e (m0, i1)).bind fun r15 =>
        if (r15 == yes2) = true then
          some m0
        else
          if 0 ≤ IntKind.i64.wrap (Int.tdiv i1 8) ∧ IntKind.i64.wrap (Int.tdiv i1 8) < ((m0.map fun b => (b.toNat : Int)).length : Int) then
            if 0 ≤ Int.tmod i1 8 then
              if 0 ≤ IntKind.i64.wrap (Int.tdiv i1 8) ∧ IntKind.i64.wrap (Int.tdiv i1 8) < ((m0.map fun b => (b.toNat : Int)).length : Int) then
                some ((((m0.map fun b => (b.toNat : Int)).set ((IntKind.i64.wrap (Int.tdiv i1 8)).toNat) (bitsOp .xor .u8 ((m0.map fun b => (b.toNat : Int)).getD ((IntKind.i64.wrap (Int.tdiv i1 8)).toNat) 0) (IntKind.u8.wrap (1 * 2 ^ (min (Int.tmod i1 8).toNat 8))))).map fun (n : Int) => UInt8.ofNat n.toNat))
              else none
            else none
          else none
    else
      some m0

theorem marks_Set.le : ∀ a, Le (marks_Set.e a) (marks_Set a) := fun (m0, i1, yes2) => by first | exact Le.bind (marks_there.le (m0, i1)) (fun r10 => Le.ite (Le.bind (marks_Is.le (m0, i1)) (fun r15 => Le.ite (Le.rfl) (Le.ite (Le.ite (Le.ite (Le.rfl) (Le.rfl)) (Le.rfl)) (Le.rfl)))) (Le.rfl)) | (unfold marks_Set.e marks_Set; exact Le.bind (marks_there.le (m0, i1)) (fun r10 => Le.ite (Le.bind (marks_Is.le (m0, i1)) (fun r15 => Le.ite (Le.rfl) (Le.ite (Le.ite (Le.ite (Le.rfl) (Le.rfl)) (Le.rfl)) (Le.rfl)))) (Le.rfl)))

def stock_low.l1e : (List UInt8 × Int) → Option ((List UInt8 × Int) ⊕ (List UInt8)) := fun (m0, t4) =>
  if decide (t4 < 51) = true then
    (marks_Set.e (m0, t4, true)).bind fun r9 =>
      some (.inl ((r9, IntKind.i64.wrap (t4 + 1))))
  else
    some (.inr m0)

def stock_low.e : List UInt8 → Option (List UInt8) := fun m0 =>
  (iter stock_low.l1e fuel ((m0, 0))).bind fun m0 =>
    some m0

theorem stock_low.l1.le : ∀ s, Le (stock_low.l1e s) (stock_low.l1 s) := fun (m0, t4) => by first | exact Le.ite (Le.bind (marks_Set.le (m0, t4, true)) (fun r9 => Le.rfl)) (Le.rfl) | (unfold stock_low.l1e stock_low.l1; exact Le.ite (Le.bind (marks_Set.le (m0, t4, true)) (fun r9 => Le.rfl)) (Le.rfl))
theorem stock_low.le : ∀ a, Le (stock_low.e a) (stock_low a) := fun m0 => by first | exact Le.bind (Le.loop stock_low.l1.le) (fun m0 => Le.rfl) | (unfold stock_low.e stock_low; exact Le.bind (Le.loop stock_low.l1.le) (fun m0 => Le.rfl))

def bits_OnesCount8.e : Int → Option (Int) := fun x0 =>
  if 0 ≤ x0 ∧ x0 < ((([0, 1, 1, 2, 1, 2, 2, 3, 1, 2, 2, 3, 2, 3, 3, 4, 1, 2, 2, 3, 2, 3, 3, 4, 2, 3, 3, 4, 3, 4, 4, 5, 1, 2, 2, 3, 2, 3, 3, 4, 2, 3, 3, 4, 3, 4, 4, 5, 2, 3, 3, 4, 3, 4, 4, 5, 3, 4, 4, 5, 4, 5, 5, 6, 1, 2, 2, 3, 2, 3, 3, 4, 2, 3, 3, 4, 3, 4, 4, 5, 2, 3, 3, 4, 3, 4, 4, 5, 3, 4, 4, 5, 4, 5, 5, 6, 2, 3, 3, 4, 3, 4, 4, 5, 3, 4, 4, 5, 4, 5, 5, 6, 3, 4, 4, 5, 4, 5, 5, 6, 4, 5, 5, 6, 5, 6, 6, 7, 1, 2, 2, 3, 2, 3, 3, 4, 2, 3, 3, 4, 3, 4, 4, 5, 2, 3, 3, 4, 3, 4, 4, 5, 3, 4, 4, 5, 4, 5, 5, 6, 2, 3, 3, 4, 3, 4, 4, 5, 3, 4, 4, 5, 4, 5, 5, 6, 3, 4, 4, 5, 4, 5, 5, 6, 4, 5, 5, 6, 5, 6, 6, 7, 2, 3, 3, 4, 3, 4, 4, 5, 3, 4, 4, 5, 4, 5, 5, 6, 3, 4, 4, 5, 4, 5, 5, 6, 4, 5, 5, 6, 5, 6, 6, 7, 3, 4, 4, 5, 4, 5, 5, 6, 4, 5, 5, 6, 5, 6, 6, 7, 4, 5, 5, 6, 5, 6, 6, 7, 5, 6, 6, 7, 6, 7, 7, 8] : List UInt8)).length : Int) then
    some ((IntKind.i64.wrap ((((([0, 1, 1, 2, 1, 2, 2, 3, 1, 2, 2, 3, 2, 3, 3, 4, 1, 2, 2, 3, 2, 3, 3, 4, 2, 3, 3, 4, 3, 4, 4, 5, 1, 2, 2, 3, 2, 3, 3, 4, 2, 3, 3, 4, 3, 4, 4, 5, 2, 3, 3, 4, 3, 4, 4, 5, 3, 4, 4, 5, 4, 5, 5, 6, 1, 2, 2, 3, 2, 3, 3, 4, 2, 3, 3, 4, 3, 4, 4, 5, 2, 3, 3, 4, 3, 4, 4, 5, 3, 4, 4, 5, 4, 5, 5, 6, 2, 3, 3, 4, 3, 4, 4, 5, 3, 4, 4, 5, 4, 5, 5, 6, 3, 4, 4, 5, 4, 5, 5, 6, 4, 5, 5, 6, 5, 6, 6, 7, 1, 2, 2, 3, 2, 3, 3, 4, 2, 3, 3, 4, 3, 4, 4, 5, 2, 3, 3, 4, 3, 4, 4, 5, 3, 4, 4, 5, 4, 5, 5, 6, 2, 3, 3, 4, 3, 4, 4, 5, 3, 4, 4, 5, 4, 5, 5, 6, 3, 4, 4, 5, 4, 5, 5, 6, 4, 5, 5, 6, 5, 6, 6, 7, 2, 3, 3, 4, 3, 4, 4, 5, 3, 4, 4, 5, 4, 5, 5, 6, 3, 4, 4, 5, 4, 5, 5, 6, 4, 5, 5, 6, 5, 6, 6, 7, 3, 4, 4, 5, 4, 5, 5, 6, 4, 5, 5, 6, 5, 6, 6, 7, 4, 5, 5, 6, 5, 6, 6, 7, 5, 6, 6, 7, 6, 7, 7, 8] : List UInt8)).getD x0.toNat 0).toNat : Int))))
  else none

theorem bits_OnesCount8.le : ∀ a, Le (bits_OnesCount8.e a) (bits_OnesCount8 a) := fun x0 => by first | exact Le.ite (Le.rfl) (Le.rfl) | (unfold bits_OnesCount8.e bits_OnesCount8; exact Le.ite (Le.rfl) (Le.rfl))

def marks_Count.l1e : (List UInt8 × Int × Int × Int × List Int × Int × Int) → Option ((List UInt8 × Int × Int × Int × List Int × Int × Int) ⊕ (List UInt8 × Int × Int × Int)) := fun (m0, n1, whole5, c6, t27, t28, t29) =>
  if decide (t29 < t28) = true then
    if 0 ≤ t29 ∧ t29 < (t27.length : Int) then
      (bits_OnesCount8.e (t27.getD t29.toNat 0)).bind fun r35 =>
        some (.inl ((m0, n1, whole5, IntKind.i64.wrap (c6 + r35), t27, t28, IntKind.i64.wrap (t29 + 1))))
    else none
  else
    some (.inr (((m0, n1, whole5, c6))))

def marks_Count.e : (List UInt8 × Int) → Option (Int) := fun (m0, n1) =>
  if 0 ≤ (if (m0.length : Int) < IntKind.i64.wrap (Int.tdiv (if 100000 < (if 0 > n1 then 0 else n1) then 100000 else (if 0 > n1 then 0 else n1)) 8) then (m0.length : Int) else IntKind.i64.wrap (Int.tdiv (if 100000 < (if 0 > n1 then 0 else n1) then 100000 else (if 0 > n1 then 0 else n1)) 8)) ∧ (if (m0.length : Int) < IntKind.i64.wrap (Int.tdiv (if 100000 < (if 0 > n1 then 0 else n1) then 100000 else (if 0 > n1 then 0 else n1)) 8) then (m0.length : Int) else IntKind.i64.wrap (Int.tdiv (if 100000 < (if 0 > n1 then 0 else n1) then 100000 else (if 0 > n1 then 0 else n1)) 8)) ≤ (m0.length : Int) then
    (iter marks_Count.l1e fuel ((m0, (if 100000 < (if 0 > n1 then 0 else n1) then 100000 else (if 0 > n1 then 0 else n1)), (if (m0.length : Int) < IntKind.i64.wrap (Int.tdiv (if 100000 < (if 0 > n1 then 0 else n1) then 100000 else (if 0 > n1 then 0 else n1)) 8) then (m0.length : Int) else IntKind.i64.wrap (Int.tdiv (if 100000 < (if 0 > n1 then 0 else n1) then 100000 else (if 0 > n1 then 0 else n1)) 8)), (if 0 > IntKind.i64.wrap ((if 100000 < (if 0 > n1 then 0 else n1) then 100000 else (if 0 > n1 then 0 else n1)) - (IntKind.i64.wrap (8 * (m0.length : Int)))) then 0 else IntKind.i64.wrap ((if 100000 < (if 0 > n1 then 0 else n1) then 100000 else (if 0 > n1 then 0 else n1)) - (IntKind.i64.wrap (8 * (m0.length : Int))))), (m0.take ((if (m0.length : Int) < IntKind.i64.wrap (Int.tdiv (if 100000 < (if 0 > n1 then 0 else n1) then 100000 else (if 0 > n1 then 0 else n1)) 8) then (m0.length : Int) else IntKind.i64.wrap (Int.tdiv (if 100000 < (if 0 > n1 then 0 else n1) then 100000 else (if 0 > n1 then 0 else n1)) 8))).toNat).map fun b => (b.toNat : Int), (((m0.take ((if (m0.length : Int) < IntKind.i64.wrap (Int.tdiv (if 100000 < (if 0 > n1 then 0 else n1) then 100000 else (if 0 > n1 then 0 else n1)) 8) then (m0.length : Int) else IntKind.i64.wrap (Int.tdiv (if 100000 < (if 0 > n1 then 0 else n1) then 100000 else (if 0 > n1 then 0 else n1)) 8))).toNat).map fun b => (b.toNat : Int)).length : Int), 0))).bind fun (m0, n1, whole5, c6) =>
      ((
        if decide (whole5 < (m0.length : Int)) = true then
          some (((m0, whole5, c6, IntKind.i64.wrap (n1 - (IntKind.i64.wrap (8 * whole5))), decide (IntKind.i64.wrap (n1 - (IntKind.i64.wrap (8 * whole5))) > 0))))
        else
          some (((m0, whole5, c6, IntKind.i64.wrap (n1 - (IntKind.i64.wrap (8 * whole5))), false)))) : Option (List UInt8 × Int × Int × Int × Bool)).bind fun (m0, whole5, c6, rest9, t49) =>
        if t49 = true then
          if 0 ≤ whole5 ∧ whole5 < (m0.length : Int) then
            if 0 ≤ rest9 then
              (bits_OnesCount8.e (bitsOp .and .u8 ((m0.getD whole5.toNat 0).toNat : Int) (IntKind.u8.wrap ((IntKind.u8.wrap (1 * 2 ^ (min rest9.toNat 8))) - 1)))).bind fun r58 =>
                some ((IntKind.i64.wrap (c6 + r58)))
            else none
          else none
        else
          some c6
  else none

theorem marks_Count.l1.le : ∀ s, Le (marks_Count.l1e s) (marks_Count.l1 s) := fun (m0, n1, whole5, c6, t27, t28, t29) => by first | exact Le.ite (Le.ite (Le.bind (bits_OnesCount8.le (t27.getD t29.toNat 0)) (fun r35 => Le.rfl)) (Le.rfl)) (Le.rfl) | (unfold marks_Count.l1e marks_Count.l1; exact Le.ite (Le.ite (Le.bind (bits_OnesCount8.le (t27.getD t29.toNat 0)) (fun r35 => Le.rfl)) (Le.rfl)) (Le.rfl))
theorem marks_Count.le : ∀ a, Le (marks_Count.e a) (marks_Count a) := fun (m0, n1) => by first | exact Le.ite (Le.bind (Le.loop marks_Count.l1.le) (fun (m0, n1, whole5, c6) => Le.bind (Le.ite (Le.rfl) (Le.rfl)) (fun (m0, whole5, c6, rest9, t49) => Le.ite (Le.ite (Le.ite (Le.bind (bits_OnesCount8.le (bitsOp .and .u8 ((m0.getD whole5.toNat 0).toNat : Int) (IntKind.u8.wrap ((IntKind.u8.wrap (1 * 2 ^ (min rest9.toNat 8))) - 1)))) (fun r58 => Le.rfl)) (Le.rfl)) (Le.rfl)) (Le.rfl)))) (Le.rfl) | (unfold marks_Count.e marks_Count; exact Le.ite (Le.bind (Le.loop marks_Count.l1.le) (fun (m0, n1, whole5, c6) => Le.bind (Le.ite (Le.rfl) (Le.rfl)) (fun (m0, whole5, c6, rest9, t49) => Le.ite (Le.ite (Le.ite (Le.bind (bits_OnesCount8.le (bitsOp .and .u8 ((m0.getD whole5.toNat 0).toNat : Int) (IntKind.u8.wrap ((IntKind.u8.wrap (1 * 2 ^ (min rest9.toNat 8))) - 1)))) (fun r58 => Le.rfl)) (Le.rfl)) (Le.rfl)) (Le.rfl)))) (Le.rfl))

def stock_Free.e : Unit → Option (Int × Int) := fun _ =>
  (stock_open.e ()).bind fun d => match d with
  | .inl r8 =>
    if (r8 != 0) = true then
      some (((0, r8)))
    else none
  | .inr (((r8b, r8_2b, r8_3b, r8_4b), r8_5b)) =>
    if (r8_5b != 0) = true then
      some (((0, r8_5b)))
    else
      (stock_low.e r8_4b).bind fun r23 =>
        (marks_Count.e (r23, r8_2b)).bind fun r29 =>
          some (((IntKind.i64.wrap (r8_2b - r29), 0)))

theorem stock_Free.le : ∀ a, Le (stock_Free.e a) (stock_Free a) := fun _ => by first | exact Le.bind (stock_open.le ()) (fun d => match d with | .inl r8 => Le.ite (Le.rfl) (Le.rfl) | .inr (((r8b, r8_2b, r8_3b, r8_4b), r8_5b)) => Le.ite (Le.rfl) (Le.bind (stock_low.le r8_4b) (fun r23 => Le.bind (marks_Count.le (r23, r8_2b)) (fun r29 => Le.rfl)))) | (unfold stock_Free.e stock_Free; exact Le.bind (stock_open.le ()) (fun d => match d with | .inl r8 => Le.ite (Le.rfl) (Le.rfl) | .inr (((r8b, r8_2b, r8_3b, r8_4b), r8_5b)) => Le.ite (Le.rfl) (Le.bind (stock_low.le r8_4b) (fun r23 => Le.bind (marks_Count.le (r23, r8_2b)) (fun r29 => Le.rfl)))))

def marks_Run.l1e : (List UInt8 × Int × Int × Int × Int) → Option ((List UInt8 × Int × Int × Int × Int) ⊕ (Unit ⊕ (Int × Bool))) := fun (m0, n2, length3, row10, i11) =>
  if decide (i11 < n2) = true then
    ((
      (marks_Is.e (m0, i11)).bind fun r30 =>
        if r30 = true then
          some (((m0, n2, length3, 0, i11)))
        else
          some (((m0, n2, length3, IntKind.i64.wrap (row10 + 1), i11)))) : Option (List UInt8 × Int × Int × Int × Int)).bind fun (m0, n2, length3, row10, i11) =>
      if (row10 == length3) = true then
        some (.inr (.inr (((IntKind.i64.wrap ((IntKind.i64.wrap (i11 + 1)) - length3), true)))))
      else
        some (.inl ((m0, n2, length3, row10, IntKind.i64.wrap (i11 + 1))))
  else
    some (.inr (.inl ()))

def marks_Run.e : (List UInt8 × Int × Int × Int) → Option (Int × Bool) := fun (m0, from1, n2, length3) =>
  if decide (length3 < 1) = true then
    some (((0, false)))
  else
    (iter marks_Run.l1e fuel ((m0, (if IntKind.i64.wrap (8 * (m0.length : Int)) < n2 then IntKind.i64.wrap (8 * (m0.length : Int)) else n2), length3, 0, (if 0 > from1 then 0 else from1)))).bind fun d => match d with
    | .inl _ =>
      some (((0, false)))
    | .inr ((t8, t9)) =>
      some (((t8, t9)))

theorem marks_Run.l1.le : ∀ s, Le (marks_Run.l1e s) (marks_Run.l1 s) := fun (m0, n2, length3, row10, i11) => by first | exact Le.ite (Le.bind (Le.bind (marks_Is.le (m0, i11)) (fun r30 => Le.ite (Le.rfl) (Le.rfl))) (fun (m0, n2, length3, row10, i11) => Le.ite (Le.rfl) (Le.rfl))) (Le.rfl) | (unfold marks_Run.l1e marks_Run.l1; exact Le.ite (Le.bind (Le.bind (marks_Is.le (m0, i11)) (fun r30 => Le.ite (Le.rfl) (Le.rfl))) (fun (m0, n2, length3, row10, i11) => Le.ite (Le.rfl) (Le.rfl))) (Le.rfl))
theorem marks_Run.le : ∀ a, Le (marks_Run.e a) (marks_Run a) := fun (m0, from1, n2, length3) => by first | exact Le.ite (Le.rfl) (Le.bind (Le.loop marks_Run.l1.le) (fun d => match d with | .inl _ => Le.rfl | .inr ((t8, t9)) => Le.rfl)) | (unfold marks_Run.e marks_Run; exact Le.ite (Le.rfl) (Le.bind (Le.loop marks_Run.l1.le) (fun d => match d with | .inl _ => Le.rfl | .inr ((t8, t9)) => Le.rfl)))

def marks_Longest.l1e : (List UInt8 × Int × Int × Int × Int × Int) → Option ((List UInt8 × Int × Int × Int × Int × Int) ⊕ (Int × Int)) := fun (m0, at6, best7, row8, t15, t16) =>
  if decide (t16 < t15) = true then
    ((
      (marks_Is.e (m0, t16)).bind fun r23 =>
        if r23 = true then
          some (((m0, at6, best7, 0, t16, t15, t16)))
        else
          some (((m0, at6, best7, IntKind.i64.wrap (row8 + 1), t16, t15, t16)))) : Option (List UInt8 × Int × Int × Int × Int × Int × Int)).bind fun (m0, at6, best7, row8, i9, t15, t16) =>
      if decide (row8 > best7) = true then
        some (.inl ((m0, IntKind.i64.wrap ((IntKind.i64.wrap (i9 + 1)) - row8), row8, row8, t15, IntKind.i64.wrap (t16 + 1))))
      else
        some (.inl ((m0, at6, best7, row8, t15, IntKind.i64.wrap (t16 + 1))))
  else
    some (.inr (((at6, best7))))

def marks_Longest.e : (List UInt8 × Int) → Option (Int × Int) := fun (m0, n1) =>
  (iter marks_Longest.l1e fuel ((m0, 0, 0, 0, (if IntKind.i64.wrap (8 * (m0.length : Int)) < (if 0 > n1 then 0 else n1) then IntKind.i64.wrap (8 * (m0.length : Int)) else (if 0 > n1 then 0 else n1)), 0))).bind fun (at6, best7) =>
    some (((at6, best7)))

theorem marks_Longest.l1.le : ∀ s, Le (marks_Longest.l1e s) (marks_Longest.l1 s) := fun (m0, at6, best7, row8, t15, t16) => by first | exact Le.ite (Le.bind (Le.bind (marks_Is.le (m0, t16)) (fun r23 => Le.ite (Le.rfl) (Le.rfl))) (fun (m0, at6, best7, row8, i9, t15, t16) => Le.ite (Le.rfl) (Le.rfl))) (Le.rfl) | (unfold marks_Longest.l1e marks_Longest.l1; exact Le.ite (Le.bind (Le.bind (marks_Is.le (m0, t16)) (fun r23 => Le.ite (Le.rfl) (Le.rfl))) (fun (m0, at6, best7, row8, i9, t15, t16) => Le.ite (Le.rfl) (Le.rfl))) (Le.rfl))
theorem marks_Longest.le : ∀ a, Le (marks_Longest.e a) (marks_Longest a) := fun (m0, n1) => by first | exact Le.bind (Le.loop marks_Longest.l1.le) (fun (at6, best7) => Le.rfl) | (unfold marks_Longest.e marks_Longest; exact Le.bind (Le.loop marks_Longest.l1.le) (fun (at6, best7) => Le.rfl))

def stock_store_row.e : ((Int × Int × Int × List UInt8) × Int) → Option ((Int × Int × Int × List UInt8) × Int × Int) := fun ((s0b, s0c, s0d, s0e), n1) =>
  (marks_Run.e (s0e, 51, s0c, n1)).bind fun (r19, r19_2) =>
    if r19_2 = true then
      some ((((s0b, s0c, s0d, s0e), r19, n1)))
    else
      (stock_low.e s0e).bind fun r29 =>
        (marks_Longest.e (r29, s0c)).bind fun (r35, r35_2) =>
          some ((((s0b, s0c, s0d, s0e), r35, r35_2)))

theorem stock_store_row.le : ∀ a, Le (stock_store_row.e a) (stock_store_row a) := fun ((s0b, s0c, s0d, s0e), n1) => by first | exact Le.bind (marks_Run.le (s0e, 51, s0c, n1)) (fun (r19, r19_2) => Le.ite (Le.rfl) (Le.bind (stock_low.le s0e) (fun r29 => Le.bind (marks_Longest.le (r29, s0c)) (fun (r35, r35_2) => Le.rfl)))) | (unfold stock_store_row.e stock_store_row; exact Le.bind (marks_Run.le (s0e, 51, s0c, n1)) (fun (r19, r19_2) => Le.ite (Le.rfl) (Le.bind (stock_low.le s0e) (fun r29 => Le.bind (marks_Longest.le (r29, s0c)) (fun (r35, r35_2) => Le.rfl)))))

def stock_store_use.l1e : ((Int × Int × Int × List UInt8) × Int × Int × Int) → Option (((Int × Int × Int × List UInt8) × Int × Int × Int) ⊕ ((Int × Int × Int × List UInt8) ⊕ ((Int × Int × Int × List UInt8) × Int))) := fun ((s0b, s0c, s0d, s0e), at1, n2, i7) =>
  if decide (i7 < IntKind.i64.wrap (at1 + n2)) = true then
    (marks_Set.e (s0e, i7, true)).bind fun r23 =>
      (deal_Deal_Write.e (i7, [])).bind fun r31 =>
        if (r31 != 0) = true then
          some (.inr (.inr ((((s0b, s0c, s0d, r23), r31)))))
        else
          some (.inl (((s0b, s0c, s0d, r23), at1, n2, IntKind.i64.wrap (i7 + 1))))
  else
    some (.inr (.inl ((s0b, s0c, s0d, s0e))))

def stock_store_use.e : ((Int × Int × Int × List UInt8) × Int × Int) → Option ((Int × Int × Int × List UInt8) × Int) := fun ((s0b, s0c, s0d, s0e), at1, n2) =>
  (iter stock_store_use.l1e fuel (((s0b, s0c, s0d, s0e), at1, n2, at1))).bind fun d => match d with
  | .inl (s0b, s0c, s0d, s0e) =>
    (deal_Deal_Write.e (42, s0e)).bind fun r43 =>
      some ((((s0b, s0c, s0d, s0e), r43)))
  | .inr (((o0b, o0c, o0d, o0e), t6)) =>
    some ((((o0b, o0c, o0d, o0e), t6)))

theorem stock_store_use.l1.le : ∀ s, Le (stock_store_use.l1e s) (stock_store_use.l1 s) := fun ((s0b, s0c, s0d, s0e), at1, n2, i7) => by first | exact Le.ite (Le.bind (marks_Set.le (s0e, i7, true)) (fun r23 => Le.bind (deal_Deal_Write.le (i7, [])) (fun r31 => Le.ite (Le.rfl) (Le.rfl)))) (Le.rfl) | (unfold stock_store_use.l1e stock_store_use.l1; exact Le.ite (Le.bind (marks_Set.le (s0e, i7, true)) (fun r23 => Le.bind (deal_Deal_Write.le (i7, [])) (fun r31 => Le.ite (Le.rfl) (Le.rfl)))) (Le.rfl))
theorem stock_store_use.le : ∀ a, Le (stock_store_use.e a) (stock_store_use a) := fun ((s0b, s0c, s0d, s0e), at1, n2) => by first | exact Le.bind (Le.loop stock_store_use.l1.le) (fun d => match d with | .inl (s0b, s0c, s0d, s0e) => Le.bind (deal_Deal_Write.le (42, s0e)) (fun r43 => Le.rfl) | .inr (((o0b, o0c, o0d, o0e), t6)) => Le.rfl) | (unfold stock_store_use.e stock_store_use; exact Le.bind (Le.loop stock_store_use.l1.le) (fun d => match d with | .inl (s0b, s0c, s0d, s0e) => Le.bind (deal_Deal_Write.le (42, s0e)) (fun r43 => Le.rfl) | .inr (((o0b, o0c, o0d, o0e), t6)) => Le.rfl))

def stock_Run.e : Int → Option (Int × Int × Int) := fun n1 =>
  (stock_open.e ()).bind fun d => match d with
  | .inl r12 =>
    if (r12 != 0) = true then
      some (((0, 0, r12)))
    else
      if decide (n1 < 1) = true then
        some (((0, 0, 1)))
      else none
  | .inr (((r12b, r12_2b, r12_3b, r12_4b), r12_5b)) =>
    if (r12_5b != 0) = true then
      some (((0, 0, r12_5b)))
    else
      if decide (n1 < 1) = true then
        some (((0, 0, 1)))
      else
        (stock_store_row.e ((r12b, r12_2b, r12_3b, r12_4b), n1)).bind fun ((r25, r25_2, r25_3, r25_4), r25_5, r25_6) =>
          if (r25_6 == 0) = true then
            some (((0, 0, 10)))
          else
            (stock_store_use.e ((r25, r25_2, r25_3, r25_4), r25_5, r25_6)).bind fun ((r35, r35_2, r35_3, r35_4), r35_5) =>
              some (((r25_5, r25_6, r35_5)))

theorem stock_Run.le : ∀ a, Le (stock_Run.e a) (stock_Run a) := fun n1 => by first | exact Le.bind (stock_open.le ()) (fun d => match d with | .inl r12 => Le.ite (Le.rfl) (Le.ite (Le.rfl) (Le.rfl)) | .inr (((r12b, r12_2b, r12_3b, r12_4b), r12_5b)) => Le.ite (Le.rfl) (Le.ite (Le.rfl) (Le.bind (stock_store_row.le ((r12b, r12_2b, r12_3b, r12_4b), n1)) (fun ((r25, r25_2, r25_3, r25_4), r25_5, r25_6) => Le.ite (Le.rfl) (Le.bind (stock_store_use.le ((r25, r25_2, r25_3, r25_4), r25_5, r25_6)) (fun ((r35, r35_2, r35_3, r35_4), r35_5) => Le.rfl)))))) | (unfold stock_Run.e stock_Run; exact Le.bind (stock_open.le ()) (fun d => match d with | .inl r12 => Le.ite (Le.rfl) (Le.ite (Le.rfl) (Le.rfl)) | .inr (((r12b, r12_2b, r12_3b, r12_4b), r12_5b)) => Le.ite (Le.rfl) (Le.ite (Le.rfl) (Le.bind (stock_store_row.le ((r12b, r12_2b, r12_3b, r12_4b), n1)) (fun ((r25, r25_2, r25_3, r25_4), r25_5, r25_6) => Le.ite (Le.rfl) (Le.bind (stock_store_use.le ((r25, r25_2, r25_3, r25_4), r25_5, r25_6)) (fun ((r35, r35_2, r35_3, r35_4), r35_5) => Le.rfl)))))))

def stock_Take.e : Unit → Option (Int × Int) := fun _ =>
  (stock_Run.e 1).bind fun (r9, r9_2, r9_3) =>
    some (((r9, r9_3)))

theorem stock_Take.le : ∀ a, Le (stock_Take.e a) (stock_Take a) := fun _ => by first | exact Le.bind (stock_Run.le 1) (fun (r9, r9_2, r9_3) => Le.rfl) | (unfold stock_Take.e stock_Take; exact Le.bind (stock_Run.le 1) (fun (r9, r9_2, r9_3) => Le.rfl))

def crown_Owned.e : ((Int × Int × Int) × Int) → Option (Bool) := fun (c0, block1) =>
  (crown_Right.e (c0.1, c0.2.1, c0.2.2)).bind fun r6 =>
    if r6 = true then
      if decide (block1 ≥ 51) = true then
        some ((decide (block1 < c0.2.1)))
      else
        some false
    else
      some false

theorem crown_Owned.le : ∀ a, Le (crown_Owned.e a) (crown_Owned a) := fun (c0, block1) => by first | exact Le.bind (crown_Right.le (c0.1, c0.2.1, c0.2.2)) (fun r6 => Le.ite (Le.ite (Le.rfl) (Le.rfl)) (Le.rfl)) | (unfold crown_Owned.e crown_Owned; exact Le.bind (crown_Right.le (c0.1, c0.2.1, c0.2.2)) (fun r6 => Le.ite (Le.ite (Le.rfl) (Le.rfl)) (Le.rfl)))

def stock_Drop.e : Int → Option (Int) := fun block1 =>
  (stock_open.e ()).bind fun d => match d with
  | .inl r9 =>
    if (r9 != 0) = true then
      some r9
    else none
  | .inr (((r9b, r9_2b, r9_3b, r9_4b), r9_5b)) =>
    if (r9_5b != 0) = true then
      some r9_5b
    else
      (crown_Owned.e ((r9b, r9_2b, r9_3b), block1)).bind fun r20 =>
        if (!r20) = false then
          (marks_Is.e (r9_4b, block1)).bind fun r28 =>
            if (!r28) = true then
              some 15
            else
              (marks_Set.e (r9_4b, block1, false)).bind fun r37 =>
                (deal_Deal_Write.e (42, r37)).bind fun r38 =>
                  some r38
        else
          some 15

theorem stock_Drop.le : ∀ a, Le (stock_Drop.e a) (stock_Drop a) := fun block1 => by first | exact Le.bind (stock_open.le ()) (fun d => match d with | .inl r9 => Le.ite (Le.rfl) (Le.rfl) | .inr (((r9b, r9_2b, r9_3b, r9_4b), r9_5b)) => Le.ite (Le.rfl) (Le.bind (crown_Owned.le ((r9b, r9_2b, r9_3b), block1)) (fun r20 => Le.ite (Le.bind (marks_Is.le (r9_4b, block1)) (fun r28 => Le.ite (Le.rfl) (Le.bind (marks_Set.le (r9_4b, block1, false)) (fun r37 => Le.bind (deal_Deal_Write.le (42, r37)) (fun r38 => Le.rfl))))) (Le.rfl)))) | (unfold stock_Drop.e stock_Drop; exact Le.bind (stock_open.le ()) (fun d => match d with | .inl r9 => Le.ite (Le.rfl) (Le.rfl) | .inr (((r9b, r9_2b, r9_3b, r9_4b), r9_5b)) => Le.ite (Le.rfl) (Le.bind (crown_Owned.le ((r9b, r9_2b, r9_3b), block1)) (fun r20 => Le.ite (Le.bind (marks_Is.le (r9_4b, block1)) (fun r28 => Le.ite (Le.rfl) (Le.bind (marks_Set.le (r9_4b, block1, false)) (fun r37 => Le.bind (deal_Deal_Write.le (42, r37)) (fun r38 => Le.rfl))))) (Le.rfl)))))

def log_Log_Read.e : (((List (List UInt8) × (List (Int × List UInt8)) × Int × Int) × Bool × Int) × Int) → Option (List UInt8) := fun (l0, i1) =>
  (slab_Slab_Read.e (l0.1, i1)).bind fun r12 =>
    some r12

theorem log_Log_Read.le : ∀ a, Le (log_Log_Read.e a) (log_Log_Read a) := fun (l0, i1) => by first | exact Le.bind (slab_Slab_Read.le (l0.1, i1)) (fun r12 => Le.rfl) | (unfold log_Log_Read.e log_Log_Read; exact Le.bind (slab_Slab_Read.le (l0.1, i1)) (fun r12 => Le.rfl))

def deal_written_get.e : ((((List (List UInt8) × (List (Int × List UInt8)) × Int × Int) × Bool × Int) × List (Int × List UInt8)) × Int) → Option (List UInt8) := fun (w0, i1) =>
  if (mget (K := I) (V := .str) w0.2 i1).isSome = true then
    some ((((mget (K := I) (V := .str) w0.2 i1).getD [])))
  else
    (log_Log_Read.e (w0.1, i1)).bind fun r23 =>
      some r23

theorem deal_written_get.le : ∀ a, Le (deal_written_get.e a) (deal_written_get a) := fun (w0, i1) => by first | exact Le.ite (Le.rfl) (Le.bind (log_Log_Read.le (w0.1, i1)) (fun r23 => Le.rfl)) | (unfold deal_written_get.e deal_written_get; exact Le.ite (Le.rfl) (Le.bind (log_Log_Read.le (w0.1, i1)) (fun r23 => Le.rfl)))

def stringslite_HasPrefix.e : (List UInt8 × List UInt8) → Option (Bool) := fun (s0, prefix1) =>
  if decide ((s0.length : Int) ≥ (prefix1.length : Int)) = true then
    if 0 ≤ (prefix1.length : Int) ∧ (prefix1.length : Int) ≤ (s0.length : Int) then
      some ((((s0.take ((prefix1.length : Int)).toNat) == prefix1)))
    else none
  else
    some false

theorem stringslite_HasPrefix.le : ∀ a, Le (stringslite_HasPrefix.e a) (stringslite_HasPrefix a) := fun (s0, prefix1) => by first | exact Le.ite (Le.ite (Le.rfl) (Le.rfl)) (Le.rfl) | (unfold stringslite_HasPrefix.e stringslite_HasPrefix; exact Le.ite (Le.ite (Le.rfl) (Le.rfl)) (Le.rfl))

def stringslite_CutPrefix.e : (List UInt8 × List UInt8) → Option (List UInt8 × Bool) := fun (s0, prefix1) =>
  (stringslite_HasPrefix.e (s0, prefix1)).bind fun r8 =>
    if (!r8) = true then
      some (((s0, false)))
    else
      if 0 ≤ (prefix1.length : Int) ∧ (prefix1.length : Int) ≤ (s0.length : Int) then
        some (((s0.drop ((prefix1.length : Int)).toNat, true)))
      else none

theorem stringslite_CutPrefix.le : ∀ a, Le (stringslite_CutPrefix.e a) (stringslite_CutPrefix a) := fun (s0, prefix1) => by first | exact Le.bind (stringslite_HasPrefix.le (s0, prefix1)) (fun r8 => Le.ite (Le.rfl) (Le.ite (Le.rfl) (Le.rfl))) | (unfold stringslite_CutPrefix.e stringslite_CutPrefix; exact Le.bind (stringslite_HasPrefix.le (s0, prefix1)) (fun r8 => Le.ite (Le.rfl) (Le.ite (Le.rfl) (Le.rfl))))

def strings_CutPrefix.e : (List UInt8 × List UInt8) → Option (List UInt8 × Bool) := fun (s0, prefix1) =>
  (stringslite_CutPrefix.e (s0, prefix1)).bind fun (r8, r8_2) =>
    some (((r8, r8_2)))

theorem strings_CutPrefix.le : ∀ a, Le (strings_CutPrefix.e a) (strings_CutPrefix a) := fun (s0, prefix1) => by first | exact Le.bind (stringslite_CutPrefix.le (s0, prefix1)) (fun (r8, r8_2) => Le.rfl) | (unfold strings_CutPrefix.e strings_CutPrefix; exact Le.bind (stringslite_CutPrefix.le (s0, prefix1)) (fun (r8, r8_2) => Le.rfl))

def crown_Read.e : List UInt8 → Option ((Int × Int × Int) × Int) := fun s0 =>
  (strings_CutPrefix.e (s0, ([119, 97, 105, 110, 119, 114, 105, 103, 104, 116] : List UInt8))).bind fun (r11, r11_2) =>
    (crown_widths.e ()).bind fun r15 =>
      (mould_Read.e (r15, r11)).bind fun (r17, r17_2) =>
        if (!r11_2) = false then
          if (r17_2 != 0) = false then
            if ((s0.length : Int) != 128) = false then
              (crown_widths.e ()).bind fun r33 =>
                (mould_Size.e r33).bind fun r34 =>
                  if 0 ≤ r34 ∧ r34 ≤ (r11.length : Int) then
                    (strings_Trim.e (r11.drop r34.toNat, ([0] : List UInt8))).bind fun r36 =>
                      if (!(r36 == [])) = true then
                        some ((((0, 0, 0), 15)))
                      else
                        if 0 ≤ (0 : Int) ∧ (0 : Int) < (r17.length : Int) then
                          if 0 ≤ (1 : Int) ∧ (1 : Int) < (r17.length : Int) then
                            if 0 ≤ (2 : Int) ∧ (2 : Int) < (r17.length : Int) then
                              (crown_Right.e (r17.getD 0 0, r17.getD 1 0, r17.getD 2 0)).bind fun r51 =>
                                if (!r51) = true then
                                  some ((((0, 0, 0), 15)))
                                else
                                  some ((((r17.getD 0 0, r17.getD 1 0, r17.getD 2 0), 0)))
                            else none
                          else none
                        else none
                  else none
            else
              some ((((0, 0, 0), 15)))
          else
            some ((((0, 0, 0), 15)))
        else
          some ((((0, 0, 0), 15)))

theorem crown_Read.le : ∀ a, Le (crown_Read.e a) (crown_Read a) := fun s0 => by first | exact Le.bind (strings_CutPrefix.le (s0, ([119, 97, 105, 110, 119, 114, 105, 103, 104, 116] : List UInt8))) (fun (r11, r11_2) => Le.bind (crown_widths.le ()) (fun r15 => Le.bind (mould_Read.le (r15, r11)) (fun (r17, r17_2) => Le.ite (Le.ite (Le.ite (Le.bind (crown_widths.le ()) (fun r33 => Le.bind (mould_Size.le r33) (fun r34 => Le.ite (Le.bind (strings_Trim.le (r11.drop r34.toNat, ([0] : List UInt8))) (fun r36 => Le.ite (Le.rfl) (Le.ite (Le.ite (Le.ite (Le.bind (crown_Right.le (r17.getD 0 0, r17.getD 1 0, r17.getD 2 0)) (fun r51 => Le.ite (Le.rfl) (Le.rfl))) (Le.rfl)) (Le.rfl)) (Le.rfl)))) (Le.rfl)))) (Le.rfl)) (Le.rfl)) (Le.rfl)))) | (unfold crown_Read.e crown_Read; exact Le.bind (strings_CutPrefix.le (s0, ([119, 97, 105, 110, 119, 114, 105, 103, 104, 116] : List UInt8))) (fun (r11, r11_2) => Le.bind (crown_widths.le ()) (fun r15 => Le.bind (mould_Read.le (r15, r11)) (fun (r17, r17_2) => Le.ite (Le.ite (Le.ite (Le.bind (crown_widths.le ()) (fun r33 => Le.bind (mould_Size.le r33) (fun r34 => Le.ite (Le.bind (strings_Trim.le (r11.drop r34.toNat, ([0] : List UInt8))) (fun r36 => Le.ite (Le.rfl) (Le.ite (Le.ite (Le.ite (Le.bind (crown_Right.le (r17.getD 0 0, r17.getD 1 0, r17.getD 2 0)) (fun r51 => Le.ite (Le.rfl) (Le.rfl))) (Le.rfl)) (Le.rfl)) (Le.rfl)))) (Le.rfl)))) (Le.rfl)) (Le.rfl)) (Le.rfl)))))

def deal_Deal_Crown_1.e : (((List (List UInt8) × (List (Int × List UInt8)) × Int × Int) × Bool × Int) × List (Int × List UInt8)) → Option ((Int × Int × Int) × Int) := fun d0 =>
  (deal_written_get.e (d0, 0)).bind fun r13 =>
    (crown_Read.e r13).bind fun (r14, r14_2) =>
      if (r14_2 != 0) = false then
        (log_Log_Size.e d0.1).bind fun r27 =>
          if decide (r14.2.1 > r27) = true then
            some ((((0, 0, 0), 15)))
          else
            some ((((r14.1, r14.2.1, r14.2.2), 0)))
      else
        some ((((0, 0, 0), 15)))

theorem deal_Deal_Crown_1.le : ∀ a, Le (deal_Deal_Crown_1.e a) (deal_Deal_Crown_1 a) := fun d0 => by first | exact Le.bind (deal_written_get.le (d0, 0)) (fun r13 => Le.bind (crown_Read.le r13) (fun (r14, r14_2) => Le.ite (Le.bind (log_Log_Size.le d0.1) (fun r27 => Le.ite (Le.rfl) (Le.rfl))) (Le.rfl))) | (unfold deal_Deal_Crown_1.e deal_Deal_Crown_1; exact Le.bind (deal_written_get.le (d0, 0)) (fun r13 => Le.bind (crown_Read.le r13) (fun (r14, r14_2) => Le.ite (Le.bind (log_Log_Size.le d0.1) (fun r27 => Le.ite (Le.rfl) (Le.rfl))) (Le.rfl))))

def deal_Deal_Read_1.e : ((((List (List UInt8) × (List (Int × List UInt8)) × Int × Int) × Bool × Int) × List (Int × List UInt8)) × Int) → Option (List UInt8 × Int) := fun (d0, i1) =>
  (deal_written_there.e (d0, i1)).bind fun r13 =>
    if (!r13) = true then
      some ((([], 1)))
    else
      (deal_written_get.e (d0, i1)).bind fun r20 =>
        some (((r20, 0)))

theorem deal_Deal_Read_1.le : ∀ a, Le (deal_Deal_Read_1.e a) (deal_Deal_Read_1 a) := fun (d0, i1) => by first | exact Le.bind (deal_written_there.le (d0, i1)) (fun r13 => Le.ite (Le.rfl) (Le.bind (deal_written_get.le (d0, i1)) (fun r20 => Le.rfl))) | (unfold deal_Deal_Read_1.e deal_Deal_Read_1; exact Le.bind (deal_written_there.le (d0, i1)) (fun r13 => Le.ite (Le.rfl) (Le.bind (deal_written_get.le (d0, i1)) (fun r20 => Le.rfl))))

def stock_open_1.e : ((Bool × Int) × (List (Int × List UInt8)) × (Int × Int) × List (List UInt8) × List (Int × List UInt8)) → Option ((((Bool × Int) × (List (Int × List UInt8)) × (Int × Int) × List (List UInt8) × List (Int × List UInt8)) × Int) ⊕ (((Bool × Int) × (List (Int × List UInt8)) × (Int × Int) × List (List UInt8) × (List (Int × List UInt8)) × Int × Int × Int × List UInt8) × Int)) := fun ((o1b, o1c), o2, (o3c, o3d), o4, o5) =>
  (deal_Deal_Crown_1.e (((o4, o5, o3c, o3d), o1b, o1c), o2)).bind fun (r9, r9_2) =>
    if (r9_2 != 0) = true then
      some (.inl ((((o1b, o1c), o2, (o3c, o3d), o4, o5), r9_2)))
    else
      (deal_Deal_Read_1.e ((((o4, o5, o3c, o3d), o1b, o1c), o2), 42)).bind fun (r17, r17_2) =>
        if (r17_2 != 0) = true then
          some (.inl ((((o1b, o1c), o2, (o3c, o3d), o4, o5), r17_2)))
        else
          some (.inr (((((o1b, o1c), o2, (o3c, o3d), o4, o5, r9.1, r9.2.1, r9.2.2, r17), 0))))

theorem stock_open_1.le : ∀ a, Le (stock_open_1.e a) (stock_open_1 a) := fun ((o1b, o1c), o2, (o3c, o3d), o4, o5) => by first | exact Le.bind (deal_Deal_Crown_1.le (((o4, o5, o3c, o3d), o1b, o1c), o2)) (fun (r9, r9_2) => Le.ite (Le.rfl) (Le.bind (deal_Deal_Read_1.le ((((o4, o5, o3c, o3d), o1b, o1c), o2), 42)) (fun (r17, r17_2) => Le.ite (Le.rfl) (Le.rfl)))) | (unfold stock_open_1.e stock_open_1; exact Le.bind (deal_Deal_Crown_1.le (((o4, o5, o3c, o3d), o1b, o1c), o2)) (fun (r9, r9_2) => Le.ite (Le.rfl) (Le.bind (deal_Deal_Read_1.le ((((o4, o5, o3c, o3d), o1b, o1c), o2), 42)) (fun (r17, r17_2) => Le.ite (Le.rfl) (Le.rfl)))))

def stock_Free_1.e : ((Bool × Int) × (List (Int × List UInt8)) × (Int × Int) × List (List UInt8) × List (Int × List UInt8)) → Option (((Bool × Int) × (List (Int × List UInt8)) × (Int × Int) × List (List UInt8) × List (Int × List UInt8)) × Int × Int) := fun ((o1b, o1c), o2, (o3c, o3d), o4, o5) =>
  (stock_open_1.e ((o1b, o1c), o2, (o3c, o3d), o4, o5)).bind fun d => match d with
  | .inl (((r8, r8_2), r8_3, (r8_4, r8_5), r8_6, r8_7), r8_8) =>
    if (r8_8 != 0) = true then
      some (((((r8, r8_2), r8_3, (r8_4, r8_5), r8_6, r8_7), 0, r8_8)))
    else none
  | .inr ((((r8b, r8_2b), r8_3b, (r8_4b, r8_5b), r8_6b, r8_7b, r8_8b, r8_9b, r8_10b, r8_11b), r8_12b)) =>
    if (r8_12b != 0) = true then
      some (((((r8b, r8_2b), r8_3b, (r8_4b, r8_5b), r8_6b, r8_7b), 0, r8_12b)))
    else
      (stock_low.e r8_11b).bind fun r23 =>
        (marks_Count.e (r23, r8_9b)).bind fun r29 =>
          some (((((r8b, r8_2b), r8_3b, (r8_4b, r8_5b), r8_6b, r8_7b), IntKind.i64.wrap (r8_9b - r29), 0)))

theorem stock_Free_1.le : ∀ a, Le (stock_Free_1.e a) (stock_Free_1 a) := fun ((o1b, o1c), o2, (o3c, o3d), o4, o5) => by first | exact Le.bind (stock_open_1.le ((o1b, o1c), o2, (o3c, o3d), o4, o5)) (fun d => match d with | .inl (((r8, r8_2), r8_3, (r8_4, r8_5), r8_6, r8_7), r8_8) => Le.ite (Le.rfl) (Le.rfl) | .inr ((((r8b, r8_2b), r8_3b, (r8_4b, r8_5b), r8_6b, r8_7b, r8_8b, r8_9b, r8_10b, r8_11b), r8_12b)) => Le.ite (Le.rfl) (Le.bind (stock_low.le r8_11b) (fun r23 => Le.bind (marks_Count.le (r23, r8_9b)) (fun r29 => Le.rfl)))) | (unfold stock_Free_1.e stock_Free_1; exact Le.bind (stock_open_1.le ((o1b, o1c), o2, (o3c, o3d), o4, o5)) (fun d => match d with | .inl (((r8, r8_2), r8_3, (r8_4, r8_5), r8_6, r8_7), r8_8) => Le.ite (Le.rfl) (Le.rfl) | .inr ((((r8b, r8_2b), r8_3b, (r8_4b, r8_5b), r8_6b, r8_7b, r8_8b, r8_9b, r8_10b, r8_11b), r8_12b)) => Le.ite (Le.rfl) (Le.bind (stock_low.le r8_11b) (fun r23 => Le.bind (marks_Count.le (r23, r8_9b)) (fun r29 => Le.rfl)))))

def stock_store_row_1.e : (((((List (List UInt8) × (List (Int × List UInt8)) × Int × Int) × Bool × Int) × List (Int × List UInt8)) × Int × Int × Int × List UInt8) × Int) → Option (Int × Int) := fun (s0, n1) =>
  (marks_Run.e (s0.2.2.2.2, 51, s0.2.2.1, n1)).bind fun (r19, r19_2) =>
    if r19_2 = true then
      some (((r19, n1)))
    else
      (stock_low.e s0.2.2.2.2).bind fun r29 =>
        (marks_Longest.e (r29, s0.2.2.1)).bind fun (r35, r35_2) =>
          some (((r35, r35_2)))

theorem stock_store_row_1.le : ∀ a, Le (stock_store_row_1.e a) (stock_store_row_1 a) := fun (s0, n1) => by first | exact Le.bind (marks_Run.le (s0.2.2.2.2, 51, s0.2.2.1, n1)) (fun (r19, r19_2) => Le.ite (Le.rfl) (Le.bind (stock_low.le s0.2.2.2.2) (fun r29 => Le.bind (marks_Longest.le (r29, s0.2.2.1)) (fun (r35, r35_2) => Le.rfl)))) | (unfold stock_store_row_1.e stock_store_row_1; exact Le.bind (marks_Run.le (s0.2.2.2.2, 51, s0.2.2.1, n1)) (fun (r19, r19_2) => Le.ite (Le.rfl) (Le.bind (stock_low.le s0.2.2.2.2) (fun r29 => Le.bind (marks_Longest.le (r29, s0.2.2.1)) (fun (r35, r35_2) => Le.rfl)))))

def stock_store_use_1.l1e : (((Int × Int × Int × List UInt8) × (Bool × Int) × (List (Int × List UInt8)) × (Int × Int) × List (List UInt8) × List (Int × List UInt8)) × Int × Int × Int) → Option ((((Int × Int × Int × List UInt8) × (Bool × Int) × (List (Int × List UInt8)) × (Int × Int) × List (List UInt8) × List (Int × List UInt8)) × Int × Int × Int) ⊕ (((Int × Int × Int × List UInt8) × (Bool × Int) × (List (Int × List UInt8)) × (Int × Int) × List (List UInt8) × List (Int × List UInt8)) ⊕ (((Int × Int × Int × List UInt8) × (Bool × Int) × (List (Int × List UInt8)) × (Int × Int) × List (List UInt8) × List (Int × List UInt8)) × Int))) := fun (((s0b, s0c, s0d, s0e), (o2b, o2c), o3, (o4c, o4d), o5, o6), at1, n2, i7) =>
  if decide (i7 < IntKind.i64.wrap (at1 + n2)) = true then
    (marks_Set.e (s0e, i7, true)).bind fun r23 =>
      (deal_Deal_Write_1.e (((o2b, o2c), o3, (o4c, o4d), o5, o6), i7, [])).bind fun (((r31, r31_2), r31_3, (r31_4, r31_5), r31_6, r31_7), r31_8) =>
        if (r31_8 != 0) = true then
          some (.inr (.inr (((((s0b, s0c, s0d, r23), (r31, r31_2), r31_3, (r31_4, r31_5), r31_6, r31_7), r31_8)))))
        else
          some (.inl ((((s0b, s0c, s0d, r23), (r31, r31_2), r31_3, (r31_4, r31_5), r31_6, r31_7), at1, n2, IntKind.i64.wrap (i7 + 1))))
  else
    some (.inr (.inl (((s0b, s0c, s0d, s0e), (o2b, o2c), o3, (o4c, o4d), o5, o6))))

def stock_store_use_1.e : (((Int × Int × Int × List UInt8) × (Bool × Int) × (List (Int × List UInt8)) × (Int × Int) × List (List UInt8) × List (Int × List UInt8)) × Int × Int) → Option (((Int × Int × Int × List UInt8) × (Bool × Int) × (List (Int × List UInt8)) × (Int × Int) × List (List UInt8) × List (Int × List UInt8)) × Int) := fun (((s0b, s0c, s0d, s0e), (o2b, o2c), o3, (o4c, o4d), o5, o6), at1, n2) =>
  (iter stock_store_use_1.l1e fuel ((((s0b, s0c, s0d, s0e), (o2b, o2c), o3, (o4c, o4d), o5, o6), at1, n2, at1))).bind fun d => match d with
  | .inl ((s0b, s0c, s0d, s0e), (o2b, o2c), o3, (o4c, o4d), o5, o6) =>
    (deal_Deal_Write_1.e (((o2b, o2c), o3, (o4c, o4d), o5, o6), 42, s0e)).bind fun (((r43, r43_2), r43_3, (r43_4, r43_5), r43_6, r43_7), r43_8) =>
      some (((((s0b, s0c, s0d, s0e), (r43, r43_2), r43_3, (r43_4, r43_5), r43_6, r43_7), r43_8)))
  | .inr ((((o0b, o0c, o0d, o0e), (o2b, o2c), o3, (o4c, o4d), o5, o6), t6)) =>
    some (((((o0b, o0c, o0d, o0e), (o2b, o2c), o3, (o4c, o4d), o5, o6), t6)))

theorem stock_store_use_1.l1.le : ∀ s, Le (stock_store_use_1.l1e s) (stock_store_use_1.l1 s) := fun (((s0b, s0c, s0d, s0e), (o2b, o2c), o3, (o4c, o4d), o5, o6), at1, n2, i7) => by first | exact Le.ite (Le.bind (marks_Set.le (s0e, i7, true)) (fun r23 => Le.bind (deal_Deal_Write_1.le (((o2b, o2c), o3, (o4c, o4d), o5, o6), i7, [])) (fun (((r31, r31_2), r31_3, (r31_4, r31_5), r31_6, r31_7), r31_8) => Le.ite (Le.rfl) (Le.rfl)))) (Le.rfl) | (unfold stock_store_use_1.l1e stock_store_use_1.l1; exact Le.ite (Le.bind (marks_Set.le (s0e, i7, true)) (fun r23 => Le.bind (deal_Deal_Write_1.le (((o2b, o2c), o3, (o4c, o4d), o5, o6), i7, [])) (fun (((r31, r31_2), r31_3, (r31_4, r31_5), r31_6, r31_7), r31_8) => Le.ite (Le.rfl) (Le.rfl)))) (Le.rfl))
theorem stock_store_use_1.le : ∀ a, Le (stock_store_use_1.e a) (stock_store_use_1 a) := fun (((s0b, s0c, s0d, s0e), (o2b, o2c), o3, (o4c, o4d), o5, o6), at1, n2) => by first | exact Le.bind (Le.loop stock_store_use_1.l1.le) (fun d => match d with | .inl ((s0b, s0c, s0d, s0e), (o2b, o2c), o3, (o4c, o4d), o5, o6) => Le.bind (deal_Deal_Write_1.le (((o2b, o2c), o3, (o4c, o4d), o5, o6), 42, s0e)) (fun (((r43, r43_2), r43_3, (r43_4, r43_5), r43_6, r43_7), r43_8) => Le.rfl) | .inr ((((o0b, o0c, o0d, o0e), (o2b, o2c), o3, (o4c, o4d), o5, o6), t6)) => Le.rfl) | (unfold stock_store_use_1.e stock_store_use_1; exact Le.bind (Le.loop stock_store_use_1.l1.le) (fun d => match d with | .inl ((s0b, s0c, s0d, s0e), (o2b, o2c), o3, (o4c, o4d), o5, o6) => Le.bind (deal_Deal_Write_1.le (((o2b, o2c), o3, (o4c, o4d), o5, o6), 42, s0e)) (fun (((r43, r43_2), r43_3, (r43_4, r43_5), r43_6, r43_7), r43_8) => Le.rfl) | .inr ((((o0b, o0c, o0d, o0e), (o2b, o2c), o3, (o4c, o4d), o5, o6), t6)) => Le.rfl))

def stock_Run_1.e : (((Bool × Int) × (List (Int × List UInt8)) × (Int × Int) × List (List UInt8) × List (Int × List UInt8)) × Int) → Option (((Bool × Int) × (List (Int × List UInt8)) × (Int × Int) × List (List UInt8) × List (Int × List UInt8)) × Int × Int × Int) := fun (((o1b, o1c), o2, (o3c, o3d), o4, o5), n1) =>
  (stock_open_1.e ((o1b, o1c), o2, (o3c, o3d), o4, o5)).bind fun d => match d with
  | .inl (((r12, r12_2), r12_3, (r12_4, r12_5), r12_6, r12_7), r12_8) =>
    if (r12_8 != 0) = true then
      some (((((r12, r12_2), r12_3, (r12_4, r12_5), r12_6, r12_7), 0, 0, r12_8)))
    else
      if decide (n1 < 1) = true then
        some (((((r12, r12_2), r12_3, (r12_4, r12_5), r12_6, r12_7), 0, 0, 1)))
      else none
  | .inr ((((r12b, r12_2b), r12_3b, (r12_4b, r12_5b), r12_6b, r12_7b, r12_8b, r12_9b, r12_10b, r12_11b), r12_12b)) =>
    if (r12_12b != 0) = true then
      some (((((r12b, r12_2b), r12_3b, (r12_4b, r12_5b), r12_6b, r12_7b), 0, 0, r12_12b)))
    else
      if decide (n1 < 1) = true then
        some (((((r12b, r12_2b), r12_3b, (r12_4b, r12_5b), r12_6b, r12_7b), 0, 0, 1)))
      else
        (stock_store_row_1.e (((((r12_6b, r12_7b, r12_4b, r12_5b), r12b, r12_2b), r12_3b), r12_8b, r12_9b, r12_10b, r12_11b), n1)).bind fun (r25, r25_2) =>
          if (r25_2 == 0) = true then
            some (((((r12b, r12_2b), r12_3b, (r12_4b, r12_5b), r12_6b, r12_7b), 0, 0, 10)))
          else
            (stock_store_use_1.e (((r12_8b, r12_9b, r12_10b, r12_11b), (r12b, r12_2b), r12_3b, (r12_4b, r12_5b), r12_6b, r12_7b), r25, r25_2)).bind fun (((r35, r35_2, r35_3, r35_4), (r35_5, r35_6), r35_7, (r35_8, r35_9), r35_10, r35_11), r35_12) =>
              some (((((r35_5, r35_6), r35_7, (r35_8, r35_9), r35_10, r35_11), r25, r25_2, r35_12)))

theorem stock_Run_1.le : ∀ a, Le (stock_Run_1.e a) (stock_Run_1 a) := fun (((o1b, o1c), o2, (o3c, o3d), o4, o5), n1) => by first | exact Le.bind (stock_open_1.le ((o1b, o1c), o2, (o3c, o3d), o4, o5)) (fun d => match d with | .inl (((r12, r12_2), r12_3, (r12_4, r12_5), r12_6, r12_7), r12_8) => Le.ite (Le.rfl) (Le.ite (Le.rfl) (Le.rfl)) | .inr ((((r12b, r12_2b), r12_3b, (r12_4b, r12_5b), r12_6b, r12_7b, r12_8b, r12_9b, r12_10b, r12_11b), r12_12b)) => Le.ite (Le.rfl) (Le.ite (Le.rfl) (Le.bind (stock_store_row_1.le (((((r12_6b, r12_7b, r12_4b, r12_5b), r12b, r12_2b), r12_3b), r12_8b, r12_9b, r12_10b, r12_11b), n1)) (fun (r25, r25_2) => Le.ite (Le.rfl) (Le.bind (stock_store_use_1.le (((r12_8b, r12_9b, r12_10b, r12_11b), (r12b, r12_2b), r12_3b, (r12_4b, r12_5b), r12_6b, r12_7b), r25, r25_2)) (fun (((r35, r35_2, r35_3, r35_4), (r35_5, r35_6), r35_7, (r35_8, r35_9), r35_10, r35_11), r35_12) => Le.rfl)))))) | (unfold stock_Run_1.e stock_Run_1; exact Le.bind (stock_open_1.le ((o1b, o1c), o2, (o3c, o3d), o4, o5)) (fun d => match d with | .inl (((r12, r12_2), r12_3, (r12_4, r12_5), r12_6, r12_7), r12_8) => Le.ite (Le.rfl) (Le.ite (Le.rfl) (Le.rfl)) | .inr ((((r12b, r12_2b), r12_3b, (r12_4b, r12_5b), r12_6b, r12_7b, r12_8b, r12_9b, r12_10b, r12_11b), r12_12b)) => Le.ite (Le.rfl) (Le.ite (Le.rfl) (Le.bind (stock_store_row_1.le (((((r12_6b, r12_7b, r12_4b, r12_5b), r12b, r12_2b), r12_3b), r12_8b, r12_9b, r12_10b, r12_11b), n1)) (fun (r25, r25_2) => Le.ite (Le.rfl) (Le.bind (stock_store_use_1.le (((r12_8b, r12_9b, r12_10b, r12_11b), (r12b, r12_2b), r12_3b, (r12_4b, r12_5b), r12_6b, r12_7b), r25, r25_2)) (fun (((r35, r35_2, r35_3, r35_4), (r35_5, r35_6), r35_7, (r35_8, r35_9), r35_10, r35_11), r35_12) => Le.rfl)))))))

def stock_Take_1.e : ((Bool × Int) × (List (Int × List UInt8)) × (Int × Int) × List (List UInt8) × List (Int × List UInt8)) → Option (((Bool × Int) × (List (Int × List UInt8)) × (Int × Int) × List (List UInt8) × List (Int × List UInt8)) × Int × Int) := fun ((o1b, o1c), o2, (o3c, o3d), o4, o5) =>
  (stock_Run_1.e (((o1b, o1c), o2, (o3c, o3d), o4, o5), 1)).bind fun (((r9, r9_2), r9_3, (r9_4, r9_5), r9_6, r9_7), r9_8, r9_9, r9_10) =>
    some (((((r9, r9_2), r9_3, (r9_4, r9_5), r9_6, r9_7), r9_8, r9_10)))

theorem stock_Take_1.le : ∀ a, Le (stock_Take_1.e a) (stock_Take_1 a) := fun ((o1b, o1c), o2, (o3c, o3d), o4, o5) => by first | exact Le.bind (stock_Run_1.le (((o1b, o1c), o2, (o3c, o3d), o4, o5), 1)) (fun (((r9, r9_2), r9_3, (r9_4, r9_5), r9_6, r9_7), r9_8, r9_9, r9_10) => Le.rfl) | (unfold stock_Take_1.e stock_Take_1; exact Le.bind (stock_Run_1.le (((o1b, o1c), o2, (o3c, o3d), o4, o5), 1)) (fun (((r9, r9_2), r9_3, (r9_4, r9_5), r9_6, r9_7), r9_8, r9_9, r9_10) => Le.rfl))

def stock_Drop_1.e : (((Bool × Int) × (List (Int × List UInt8)) × (Int × Int) × List (List UInt8) × List (Int × List UInt8)) × Int) → Option (((Bool × Int) × (List (Int × List UInt8)) × (Int × Int) × List (List UInt8) × List (Int × List UInt8)) × Int) := fun (((o1b, o1c), o2, (o3c, o3d), o4, o5), block1) =>
  (stock_open_1.e ((o1b, o1c), o2, (o3c, o3d), o4, o5)).bind fun d => match d with
  | .inl (((r9, r9_2), r9_3, (r9_4, r9_5), r9_6, r9_7), r9_8) =>
    if (r9_8 != 0) = true then
      some (((((r9, r9_2), r9_3, (r9_4, r9_5), r9_6, r9_7), r9_8)))
    else none
  | .inr ((((r9b, r9_2b), r9_3b, (r9_4b, r9_5b), r9_6b, r9_7b, r9_8b, r9_9b, r9_10b, r9_11b), r9_12b)) =>
    if (r9_12b != 0) = true then
      some (((((r9b, r9_2b), r9_3b, (r9_4b, r9_5b), r9_6b, r9_7b), r9_12b)))
    else
      (crown_Owned.e ((r9_8b, r9_9b, r9_10b), block1)).bind fun r20 =>
        if (!r20) = false then
          (marks_Is.e (r9_11b, block1)).bind fun r28 =>
            if (!r28) = true then
              some (((((r9b, r9_2b), r9_3b, (r9_4b, r9_5b), r9_6b, r9_7b), 15)))
            else
              (marks_Set.e (r9_11b, block1, false)).bind fun r37 =>
                (deal_Deal_Write_1.e (((r9b, r9_2b), r9_3b, (r9_4b, r9_5b), r9_6b, r9_7b), 42, r37)).bind fun (((r38, r38_2), r38_3, (r38_4, r38_5), r38_6, r38_7), r38_8) =>
                  some (((((r38, r38_2), r38_3, (r38_4, r38_5), r38_6, r38_7), r38_8)))
        else
          some (((((r9b, r9_2b), r9_3b, (r9_4b, r9_5b), r9_6b, r9_7b), 15)))

theorem stock_Drop_1.le : ∀ a, Le (stock_Drop_1.e a) (stock_Drop_1 a) := fun (((o1b, o1c), o2, (o3c, o3d), o4, o5), block1) => by first | exact Le.bind (stock_open_1.le ((o1b, o1c), o2, (o3c, o3d), o4, o5)) (fun d => match d with | .inl (((r9, r9_2), r9_3, (r9_4, r9_5), r9_6, r9_7), r9_8) => Le.ite (Le.rfl) (Le.rfl) | .inr ((((r9b, r9_2b), r9_3b, (r9_4b, r9_5b), r9_6b, r9_7b, r9_8b, r9_9b, r9_10b, r9_11b), r9_12b)) => Le.ite (Le.rfl) (Le.bind (crown_Owned.le ((r9_8b, r9_9b, r9_10b), block1)) (fun r20 => Le.ite (Le.bind (marks_Is.le (r9_11b, block1)) (fun r28 => Le.ite (Le.rfl) (Le.bind (marks_Set.le (r9_11b, block1, false)) (fun r37 => Le.bind (deal_Deal_Write_1.le (((r9b, r9_2b), r9_3b, (r9_4b, r9_5b), r9_6b, r9_7b), 42, r37)) (fun (((r38, r38_2), r38_3, (r38_4, r38_5), r38_6, r38_7), r38_8) => Le.rfl))))) (Le.rfl)))) | (unfold stock_Drop_1.e stock_Drop_1; exact Le.bind (stock_open_1.le ((o1b, o1c), o2, (o3c, o3d), o4, o5)) (fun d => match d with | .inl (((r9, r9_2), r9_3, (r9_4, r9_5), r9_6, r9_7), r9_8) => Le.ite (Le.rfl) (Le.rfl) | .inr ((((r9b, r9_2b), r9_3b, (r9_4b, r9_5b), r9_6b, r9_7b, r9_8b, r9_9b, r9_10b, r9_11b), r9_12b)) => Le.ite (Le.rfl) (Le.bind (crown_Owned.le ((r9_8b, r9_9b, r9_10b), block1)) (fun r20 => Le.ite (Le.bind (marks_Is.le (r9_11b, block1)) (fun r28 => Le.ite (Le.rfl) (Le.bind (marks_Set.le (r9_11b, block1, false)) (fun r37 => Le.bind (deal_Deal_Write_1.le (((r9b, r9_2b), r9_3b, (r9_4b, r9_5b), r9_6b, r9_7b), 42, r37)) (fun (((r38, r38_2), r38_3, (r38_4, r38_5), r38_6, r38_7), r38_8) => Le.rfl))))) (Le.rfl)))))

def wainwrightlaw13_lives.e : Unit → Option (Bool) := fun _ =>
  (wainwrightlaw13_begin.e (64, [])).bind fun d => match d with
  | .inl _ =>
    some false
  | .inr (.inl (r9b, r9_2b)) =>
    (stock_Free.e ()).bind fun (r17, r17_2) =>
      (stock_Take.e ()).bind fun (r25, r25_2) =>
        (stock_Run.e 3).bind fun (r33, r33_2, r33_3) =>
          if (r17_2 == 0) = true then
            if (r17 == 13) = true then
              if (r25_2 == 0) = true then
                if (r25 == 51) = true then
                  if (r33_3 == 0) = true then
                    if (r33 == 52) = true then
                      if (r33_2 == 3) = true then
                        (stock_Drop.e 51).bind fun r68 =>
                          some (((r68 == 0)))
                      else
                        some false
                    else
                      some false
                  else
                    some false
                else
                  some false
              else
                some false
            else
              some false
          else
            some false
  | .inr (.inr (((r9c, r9_2c), r9_3c, r9_4c, r9_5c, (r9_6c, r9_7c), r9_8c, r9_9c))) =>
    (stock_Free_1.e ((r9c, r9_2c), r9_3c, (r9_6c, r9_7c), r9_8c, r9_9c)).bind fun (((r17a, r17a_2), r17a_3, (r17a_4, r17a_5), r17a_6, r17a_7), r17a_8, r17a_9) =>
      (stock_Take_1.e ((r17a, r17a_2), r17a_3, (r17a_4, r17a_5), r17a_6, r17a_7)).bind fun (((r25a, r25a_2), r25a_3, (r25a_4, r25a_5), r25a_6, r25a_7), r25a_8, r25a_9) =>
        (stock_Run_1.e (((r25a, r25a_2), r25a_3, (r25a_4, r25a_5), r25a_6, r25a_7), 3)).bind fun (((r33a, r33a_2), r33a_3, (r33a_4, r33a_5), r33a_6, r33a_7), r33a_8, r33a_9, r33a_10) =>
          if (r17a_9 == 0) = true then
            if (r17a_8 == 13) = true then
              if (r25a_9 == 0) = true then
                if (r25a_8 == 51) = true then
                  if (r33a_10 == 0) = true then
                    if (r33a_8 == 52) = true then
                      if (r33a_9 == 3) = true then
                        (stock_Drop_1.e (((r33a, r33a_2), r33a_3, (r33a_4, r33a_5), r33a_6, r33a_7), 51)).bind fun (((r68a, r68a_2), r68a_3, (r68a_4, r68a_5), r68a_6, r68a_7), r68a_8) =>
                          some (((r68a_8 == 0)))
                      else
                        some false
                    else
                      some false
                  else
                    some false
                else
                  some false
              else
                some false
            else
              some false
          else
            some false

theorem wainwrightlaw13_lives.le : ∀ a, Le (wainwrightlaw13_lives.e a) (wainwrightlaw13_lives a) := fun _ => by first | exact Le.bind (wainwrightlaw13_begin.le (64, [])) (fun d => match d with | .inl _ => Le.rfl | .inr (.inl (r9b, r9_2b)) => Le.bind (stock_Free.le ()) (fun (r17, r17_2) => Le.bind (stock_Take.le ()) (fun (r25, r25_2) => Le.bind (stock_Run.le 3) (fun (r33, r33_2, r33_3) => Le.ite (Le.ite (Le.ite (Le.ite (Le.ite (Le.ite (Le.ite (Le.bind (stock_Drop.le 51) (fun r68 => Le.rfl)) (Le.rfl)) (Le.rfl)) (Le.rfl)) (Le.rfl)) (Le.rfl)) (Le.rfl)) (Le.rfl)))) | .inr (.inr (((r9c, r9_2c), r9_3c, r9_4c, r9_5c, (r9_6c, r9_7c), r9_8c, r9_9c))) => Le.bind (stock_Free_1.le ((r9c, r9_2c), r9_3c, (r9_6c, r9_7c), r9_8c, r9_9c)) (fun (((r17a, r17a_2), r17a_3, (r17a_4, r17a_5), r17a_6, r17a_7), r17a_8, r17a_9) => Le.bind (stock_Take_1.le ((r17a, r17a_2), r17a_3, (r17a_4, r17a_5), r17a_6, r17a_7)) (fun (((r25a, r25a_2), r25a_3, (r25a_4, r25a_5), r25a_6, r25a_7), r25a_8, r25a_9) => Le.bind (stock_Run_1.le (((r25a, r25a_2), r25a_3, (r25a_4, r25a_5), r25a_6, r25a_7), 3)) (fun (((r33a, r33a_2), r33a_3, (r33a_4, r33a_5), r33a_6, r33a_7), r33a_8, r33a_9, r33a_10) => Le.ite (Le.ite (Le.ite (Le.ite (Le.ite (Le.ite (Le.ite (Le.bind (stock_Drop_1.le (((r33a, r33a_2), r33a_3, (r33a_4, r33a_5), r33a_6, r33a_7), 51)) (fun (((r68a, r68a_2), r68a_3, (r68a_4, r68a_5), r68a_6, r68a_7), r68a_8) => Le.rfl)) (Le.rfl)) (Le.rfl)) (Le.rfl)) (Le.rfl)) (Le.rfl)) (Le.rfl)) (Le.rfl))))) | (unfold wainwrightlaw13_lives.e wainwrightlaw13_lives; exact Le.bind (wainwrightlaw13_begin.le (64, [])) (fun d => match d with | .inl _ => Le.rfl | .inr (.inl (r9b, r9_2b)) => Le.bind (stock_Free.le ()) (fun (r17, r17_2) => Le.bind (stock_Take.le ()) (fun (r25, r25_2) => Le.bind (stock_Run.le 3) (fun (r33, r33_2, r33_3) => Le.ite (Le.ite (Le.ite (Le.ite (Le.ite (Le.ite (Le.ite (Le.bind (stock_Drop.le 51) (fun r68 => Le.rfl)) (Le.rfl)) (Le.rfl)) (Le.rfl)) (Le.rfl)) (Le.rfl)) (Le.rfl)) (Le.rfl)))) | .inr (.inr (((r9c, r9_2c), r9_3c, r9_4c, r9_5c, (r9_6c, r9_7c), r9_8c, r9_9c))) => Le.bind (stock_Free_1.le ((r9c, r9_2c), r9_3c, (r9_6c, r9_7c), r9_8c, r9_9c)) (fun (((r17a, r17a_2), r17a_3, (r17a_4, r17a_5), r17a_6, r17a_7), r17a_8, r17a_9) => Le.bind (stock_Take_1.le ((r17a, r17a_2), r17a_3, (r17a_4, r17a_5), r17a_6, r17a_7)) (fun (((r25a, r25a_2), r25a_3, (r25a_4, r25a_5), r25a_6, r25a_7), r25a_8, r25a_9) => Le.bind (stock_Run_1.le (((r25a, r25a_2), r25a_3, (r25a_4, r25a_5), r25a_6, r25a_7), 3)) (fun (((r33a, r33a_2), r33a_3, (r33a_4, r33a_5), r33a_6, r33a_7), r33a_8, r33a_9, r33a_10) => Le.ite (Le.ite (Le.ite (Le.ite (Le.ite (Le.ite (Le.ite (Le.bind (stock_Drop_1.le (((r33a, r33a_2), r33a_3, (r33a_4, r33a_5), r33a_6, r33a_7), 51)) (fun (((r68a, r68a_2), r68a_3, (r68a_4, r68a_5), r68a_6, r68a_7), r68a_8) => Le.rfl)) (Le.rfl)) (Le.rfl)) (Le.rfl)) (Le.rfl)) (Le.rfl)) (Le.rfl)) (Le.rfl))))))

def wainwrightref01_Read.l2e : (List Int × List Int × List UInt8 × Int × Int × Int × Int) → Option ((List Int × List Int × List UInt8 × Int × Int × Int × Int) ⊕ (List Int × List Int × List UInt8 × Int × Int × Int)) := fun (out6, widths0, s1, at7, i8, v9, k10) =>
  if decide (k10 ≥ 0) = true then
    if 0 ≤ IntKind.i64.wrap (at7 + k10) ∧ IntKind.i64.wrap (at7 + k10) < (s1.length : Int) then
      some (.inl ((out6, widths0, s1, at7, i8, IntKind.i64.wrap ((IntKind.i64.wrap (256 * v9)) + (IntKind.i64.wrap (((s1.getD ((IntKind.i64.wrap (at7 + k10)).toNat) 0).toNat : Int)))), IntKind.i64.wrap (k10 - 1))))
    else none
  else
    some (.inr (((out6, widths0, s1, at7, i8, v9))))

def wainwrightref01_Read.l1e : (List Int × List Int × List UInt8 × Int × Int) → Option ((List Int × List Int × List UInt8 × Int × Int) ⊕ (List Int)) := fun (out6, widths0, s1, at7, i8) =>
  if decide (i8 < (widths0.length : Int)) = true then
    if 0 ≤ i8 ∧ i8 < (widths0.length : Int) then
      (iter wainwrightref01_Read.l2e fuel ((out6, widths0, s1, at7, i8, 0, IntKind.i64.wrap ((widths0.getD i8.toNat 0) - 1)))).bind fun (out6, widths0, s1, at7, i8, v9) =>
        if roomOk (out6.length + (([v9] : List Int)).length) 8 then
          if 0 ≤ i8 ∧ i8 < (widths0.length : Int) then
            some (.inl ((out6 ++ (([v9] : List Int)), widths0, s1, IntKind.i64.wrap (at7 + (widths0.getD i8.toNat 0)), IntKind.i64.wrap (i8 + 1))))
          else none
        else none
    else none
  else
    some (.inr out6)

def wainwrightref01_Read.e : (List Int × List UInt8) → Option (List Int × Int) := fun (widths0, s1) =>
  (wainwrightref01_Size.e widths0).bind fun r12 =>
    if decide (r12 < 0) = true then
      some (((([] : List Int), 1)))
    else
      (wainwrightref01_Size.e widths0).bind fun r17 =>
        if decide ((s1.length : Int) < r17) = true then
          some (((([] : List Int), 2)))
        else
          (iter wainwrightref01_Read.l1e fuel (([], widths0, s1, 0, 0))).bind fun out6 =>
            some (((out6, 0)))

theorem wainwrightref01_Read.l2.le : ∀ s, Le (wainwrightref01_Read.l2e s) (wainwrightref01_Read.l2 s) := fun (out6, widths0, s1, at7, i8, v9, k10) => by first | exact Le.ite (Le.ite (Le.rfl) (Le.rfl)) (Le.rfl) | (unfold wainwrightref01_Read.l2e wainwrightref01_Read.l2; exact Le.ite (Le.ite (Le.rfl) (Le.rfl)) (Le.rfl))
theorem wainwrightref01_Read.l1.le : ∀ s, Le (wainwrightref01_Read.l1e s) (wainwrightref01_Read.l1 s) := fun (out6, widths0, s1, at7, i8) => by first | exact Le.ite (Le.ite (Le.bind (Le.loop wainwrightref01_Read.l2.le) (fun (out6, widths0, s1, at7, i8, v9) => Le.ite (Le.ite (Le.rfl) (Le.rfl)) (Le.rfl))) (Le.rfl)) (Le.rfl) | (unfold wainwrightref01_Read.l1e wainwrightref01_Read.l1; exact Le.ite (Le.ite (Le.bind (Le.loop wainwrightref01_Read.l2.le) (fun (out6, widths0, s1, at7, i8, v9) => Le.ite (Le.ite (Le.rfl) (Le.rfl)) (Le.rfl))) (Le.rfl)) (Le.rfl))
theorem wainwrightref01_Read.le : ∀ a, Le (wainwrightref01_Read.e a) (wainwrightref01_Read a) := fun (widths0, s1) => by first | exact Le.bind (wainwrightref01_Size.le widths0) (fun r12 => Le.ite (Le.rfl) (Le.bind (wainwrightref01_Size.le widths0) (fun r17 => Le.ite (Le.rfl) (Le.bind (Le.loop wainwrightref01_Read.l1.le) (fun out6 => Le.rfl))))) | (unfold wainwrightref01_Read.e wainwrightref01_Read; exact Le.bind (wainwrightref01_Size.le widths0) (fun r12 => Le.ite (Le.rfl) (Le.bind (wainwrightref01_Size.le widths0) (fun r17 => Le.ite (Le.rfl) (Le.bind (Le.loop wainwrightref01_Read.l1.le) (fun out6 => Le.rfl))))))

def wainwrightref10_Read.e : List UInt8 → Option ((Int × Int × Int) × Int) := fun s0 =>
  if ((s0.length : Int) != 128) = true then
    some ((((0, 0, 0), 15)))
  else
    if 0 ≤ (10 : Int) ∧ (10 : Int) ≤ (s0.length : Int) then
      (wainwrightref01_Read.e (([1, 2, 1] : List Int), s0.drop 10)).bind fun (r17, r17_2) =>
        if 0 ≤ (0 : Int) ∧ (0 : Int) < (r17.length : Int) then
          if 0 ≤ (1 : Int) ∧ (1 : Int) < (r17.length : Int) then
            if 0 ≤ (2 : Int) ∧ (2 : Int) < (r17.length : Int) then
              (wainwrightref10_Write.e (r17.getD 0 0, r17.getD 1 0, r17.getD 2 0)).bind fun (r32, r32_2) =>
                if (r32_2 != 0) = false then
                  if (!(r32 == s0)) = true then
                    some ((((0, 0, 0), 15)))
                  else
                    some ((((r17.getD 0 0, r17.getD 1 0, r17.getD 2 0), 0)))
                else
                  some ((((0, 0, 0), 15)))
            else none
          else none
        else none
    else none

theorem wainwrightref10_Read.le : ∀ a, Le (wainwrightref10_Read.e a) (wainwrightref10_Read a) := fun s0 => by first | exact Le.ite (Le.rfl) (Le.ite (Le.bind (wainwrightref01_Read.le (([1, 2, 1] : List Int), s0.drop 10)) (fun (r17, r17_2) => Le.ite (Le.ite (Le.ite (Le.bind (wainwrightref10_Write.le (r17.getD 0 0, r17.getD 1 0, r17.getD 2 0)) (fun (r32, r32_2) => Le.ite (Le.ite (Le.rfl) (Le.rfl)) (Le.rfl))) (Le.rfl)) (Le.rfl)) (Le.rfl))) (Le.rfl)) | (unfold wainwrightref10_Read.e wainwrightref10_Read; exact Le.ite (Le.rfl) (Le.ite (Le.bind (wainwrightref01_Read.le (([1, 2, 1] : List Int), s0.drop 10)) (fun (r17, r17_2) => Le.ite (Le.ite (Le.ite (Le.bind (wainwrightref10_Write.le (r17.getD 0 0, r17.getD 1 0, r17.getD 2 0)) (fun (r32, r32_2) => Le.ite (Le.ite (Le.rfl) (Le.rfl)) (Le.rfl))) (Le.rfl)) (Le.rfl)) (Le.rfl))) (Le.rfl)))

end Go.Proofs.YtiodpeekbeahlaaGreatDoor.Abs
