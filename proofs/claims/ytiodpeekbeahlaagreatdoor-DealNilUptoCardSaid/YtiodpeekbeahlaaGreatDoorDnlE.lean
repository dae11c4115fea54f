/- The same functions, each loop with so many rounds at most: printed by gen2.py (own work). -/
import Derived.Test.YtiodpeekbeahlaaGreatDoorDnl
import Derived.Test.YtiodpeekbeahlaaGreatDoorAbsEval
namespace Go.Proofs.YtiodpeekbeahlaaGreatDoor.Abs
open Go Go.Proofs
set_option maxRecDepth 100000
set_option linter.unusedVariables false

def mould_fits.e : (List UInt8 × Int) → Option (Int) := fun (s0, n1) =>
  ((
    if decide (n1 < 0) = false then
      some (((s0, n1, decide (n1 > 1000))))
    else
      some (((s0, n1, true)))) : Option (List UInt8 × Int × Bool)).bind fun (s0, n1, t5) =>
    if t5 = true then
      some 1
    else
      if decide ((s0.length : Int) > n1) = true then
        some 3
      else
        some 0

theorem mould_fits.le : ∀ a, Le (mould_fits.e a) (mould_fits a) := fun (s0, n1) => by first | exact Le.bind (Le.ite (Le.rfl) (Le.rfl)) (fun (s0, n1, t5) => Le.ite (Le.rfl) (Le.ite (Le.rfl) (Le.rfl))) | (unfold mould_fits.e mould_fits; exact Le.bind (Le.ite (Le.rfl) (Le.rfl)) (fun (s0, n1, t5) => Le.ite (Le.rfl) (Le.ite (Le.rfl) (Le.rfl))))

def mould_Pad.e : (List UInt8 × Int) → Option (List UInt8 × Int) := fun (s0, n1) =>
  (mould_fits.e (s0, n1)).bind fun r9 =>
    if (r9 != 0) = true then
      some ((([], r9)))
    else
      (strings_Repeat (([0] : List UInt8), IntKind.i64.wrap (n1 - (s0.length : Int)))).bind fun r18 =>
        if s0.length + r18.length ≤ 9223372036854775807 then
          some (((s0 ++ r18, 0)))
        else none

theorem mould_Pad.le : ∀ a, Le (mould_Pad.e a) (mould_Pad a) := fun (s0, n1) => by first | exact Le.bind (mould_fits.le (s0, n1)) (fun r9 => Le.ite (Le.rfl) (Le.bind Le.rfl (fun r18 => Le.ite (Le.rfl) (Le.rfl)))) | (unfold mould_Pad.e mould_Pad; exact Le.bind (mould_fits.le (s0, n1)) (fun r9 => Le.ite (Le.rfl) (Le.bind Le.rfl (fun r18 => Le.ite (Le.rfl) (Le.rfl)))))

def slab_whole.e : List UInt8 → Option (List UInt8) := fun s0 =>
  if 0 ≤ (if 128 < (s0.length : Int) then 128 else (s0.length : Int)) ∧ (if 128 < (s0.length : Int) then 128 else (s0.length : Int)) ≤ (s0.length : Int) then
    (mould_Pad.e (s0.take ((if 128 < (s0.length : Int) then 128 else (s0.length : Int))).toNat, 128)).bind fun (r11, r11_2) =>
      some r11
  else none

theorem slab_whole.le : ∀ a, Le (slab_whole.e a) (slab_whole a) := fun s0 => by first | exact Le.ite (Le.bind (mould_Pad.le (s0.take ((if 128 < (s0.length : Int) then 128 else (s0.length : Int))).toNat, 128)) (fun (r11, r11_2) => Le.rfl)) (Le.rfl) | (unfold slab_whole.e slab_whole; exact Le.ite (Le.bind (mould_Pad.le (s0.take ((if 128 < (s0.length : Int) then 128 else (s0.length : Int))).toNat, 128)) (fun (r11, r11_2) => Le.rfl)) (Le.rfl))

def slab_Load.l1e : (((Int × Int) × List (List UInt8) × List (Int × List UInt8)) × List (List UInt8) × Int × Int) → Option ((((Int × Int) × List (List UInt8) × List (Int × List UInt8)) × List (List UInt8) × Int × Int) ⊕ ((Int × Int) × List (List UInt8) × List (Int × List UInt8))) := fun (((s3c, s3d), o1, o2), t13, t14, t15) =>
  if decide (t15 < t14) = true then
    if 0 ≤ t15 ∧ t15 < (t13.length : Int) then
      (slab_whole.e (t13.getD t15.toNat [])).bind fun r25 =>
        if roomOk (o1.length + (([r25] : List (List UInt8))).length) 16 then
          some (.inl ((((s3c, s3d), o1 ++ (([r25] : List (List UInt8))), o2), t13, t14, IntKind.i64.wrap (t15 + 1))))
        else none
    else none
  else
    some (.inr ((((s3c, s3d), o1, o2))))

def slab_Load.e : List (List UInt8) → Option ((Int × Int) × List (List UInt8) × List (Int × List UInt8)) := fun image0 =>
  if 0 ≤ (if 1000 < (image0.length : Int) then 1000 else (image0.length : Int)) ∧ (if 1000 < (image0.length : Int) then 1000 else (image0.length : Int)) ≤ (image0.length : Int) then
    (iter slab_Load.l1e fuel ((((0, (-1)), [], ([] : List (Int × List UInt8))), image0.take ((if 1000 < (image0.length : Int) then 1000 else (image0.length : Int))).toNat, ((image0.take ((if 1000 < (image0.length : Int) then 1000 else (image0.length : Int))).toNat).length : Int), 0))).bind fun ((s3c, s3d), o1, o2) =>
      some ((((s3c, s3d), o1, o2)))
  else none

theorem slab_Load.l1.le : ∀ s, Le (slab_Load.l1e s) (slab_Load.l1 s) := fun (((s3c, s3d), o1, o2), t13, t14, t15) => by first | exact Le.ite (Le.ite (Le.bind (slab_whole.le (t13.getD t15.toNat [])) (fun r25 => Le.ite (Le.rfl) (Le.rfl))) (Le.rfl)) (Le.rfl) | (unfold slab_Load.l1e slab_Load.l1; exact Le.ite (Le.ite (Le.bind (slab_whole.le (t13.getD t15.toNat [])) (fun r25 => Le.ite (Le.rfl) (Le.rfl))) (Le.rfl)) (Le.rfl))
theorem slab_Load.le : ∀ a, Le (slab_Load.e a) (slab_Load a) := fun image0 => by first | exact Le.ite (Le.bind (Le.loop slab_Load.l1.le) (fun ((s3c, s3d), o1, o2) => Le.rfl)) (Le.rfl) | (unfold slab_Load.e slab_Load; exact Le.ite (Le.bind (Le.loop slab_Load.l1.le) (fun ((s3c, s3d), o1, o2) => Le.rfl)) (Le.rfl))

def slab_New.e : Int → Option ((Int × Int) × List (List UInt8) × List (Int × List UInt8)) := fun n0 =>
  if 0 ≤ (if 1000 < (if 0 > n0 then 0 else n0) then 1000 else (if 0 > n0 then 0 else n0)) ∧ (if 1000 < (if 0 > n0 then 0 else n0) then 1000 else (if 0 > n0 then 0 else n0)) ≤ (if 1000 < (if 0 > n0 then 0 else n0) then 1000 else (if 0 > n0 then 0 else n0)) ∧ (if 1000 < (if 0 > n0 then 0 else n0) then 1000 else (if 0 > n0 then 0 else n0)) * (16 : Nat) ≤ 140737488355328 ∧ (if 1000 < (if 0 > n0 then 0 else n0) then 1000 else (if 0 > n0 then 0 else n0)) ≤ 9223372036854775807 then
    (slab_Load.e (List.replicate ((if 1000 < (if 0 > n0 then 0 else n0) then 1000 else (if 0 > n0 then 0 else n0))).toNat ([] : List UInt8))).bind fun ((r7, r7_2), r7_3, r7_4) =>
      some ((((r7, r7_2), r7_3, r7_4)))
  else none

theorem slab_New.le : ∀ a, Le (slab_New.e a) (slab_New a) := fun n0 => by first | exact Le.ite (Le.bind (slab_Load.le (List.replicate ((if 1000 < (if 0 > n0 then 0 else n0) then 1000 else (if 0 > n0 then 0 else n0))).toNat ([] : List UInt8))) (fun ((r7, r7_2), r7_3, r7_4) => Le.rfl)) (Le.rfl) | (unfold slab_New.e slab_New; exact Le.ite (Le.bind (slab_Load.le (List.replicate ((if 1000 < (if 0 > n0 then 0 else n0) then 1000 else (if 0 > n0 then 0 else n0))).toNat ([] : List UInt8))) (fun ((r7, r7_2), r7_3, r7_4) => Le.rfl)) (Le.rfl))

def slab_Slab_Size.e : (List (List UInt8) × (List (Int × List UInt8)) × Int × Int) → Option (Int) := fun s0 =>
  some (((s0.1.length : Int)))

theorem slab_Slab_Size.le : ∀ a, Le (slab_Slab_Size.e a) (slab_Slab_Size a) := fun s0 => by first | exact Le.rfl | (unfold slab_Slab_Size.e slab_Slab_Size; exact Le.rfl)

def slab_Slab_there.e : ((List (List UInt8) × (List (Int × List UInt8)) × Int × Int) × Int) → Option (Bool) := fun (s0, i1) =>
  if decide (i1 ≥ 0) = true then
    some ((decide (i1 < (s0.1.length : Int))))
  else
    some false

theorem slab_Slab_there.le : ∀ a, Le (slab_Slab_there.e a) (slab_Slab_there a) := fun (s0, i1) => by first | exact Le.ite (Le.rfl) (Le.rfl) | (unfold slab_Slab_there.e slab_Slab_there; exact Le.ite (Le.rfl) (Le.rfl))

def slab_Slab_Read.e : ((List (List UInt8) × (List (Int × List UInt8)) × Int × Int) × Int) → Option (List UInt8) := fun (s0, i1) =>
  (slab_Slab_there.e (s0, i1)).bind fun r9 =>
    if (!r9) = true then
      some []
    else
      if (mget (K := I) (V := .str) s0.2.1 i1).isSome = true then
        some ((((mget (K := I) (V := .str) s0.2.1 i1).getD [])))
      else
        if 0 ≤ i1 ∧ i1 < (s0.1.length : Int) then
          some ((s0.1.getD i1.toNat []))
        else none

theorem slab_Slab_Read.le : ∀ a, Le (slab_Slab_Read.e a) (slab_Slab_Read a) := fun (s0, i1) => by first | exact Le.bind (slab_Slab_there.le (s0, i1)) (fun r9 => Le.ite (Le.rfl) (Le.ite (Le.rfl) (Le.ite (Le.rfl) (Le.rfl)))) | (unfold slab_Slab_Read.e slab_Slab_Read; exact Le.bind (slab_Slab_there.le (s0, i1)) (fun r9 => Le.ite (Le.rfl) (Le.ite (Le.rfl) (Le.ite (Le.rfl) (Le.rfl)))))

def bits_Mul64.e : (Int × Int) → Option (Int × Int) := fun (x0, y1) =>
  some (((IntKind.u64.wrap ((IntKind.u64.wrap ((IntKind.u64.wrap ((Int.fdiv x0 (2 ^ 32)) * (Int.fdiv y1 (2 ^ 32)))) + (Int.fdiv (IntKind.u64.wrap ((IntKind.u64.wrap ((Int.fdiv x0 (2 ^ 32)) * (bitsOp .and .u64 y1 4294967295))) + (Int.fdiv (IntKind.u64.wrap ((bitsOp .and .u64 x0 4294967295) * (bitsOp .and .u64 y1 4294967295))) (2 ^ 32)))) (2 ^ 32)))) + (Int.fdiv (IntKind.u64.wrap ((bitsOp .and .u64 (IntKind.u64.wrap ((IntKind.u64.wrap ((Int.fdiv x0 (2 ^ 32)) * (bitsOp .and .u64 y1 4294967295))) + (Int.fdiv (IntKind.u64.wrap ((bitsOp .and .u64 x0 4294967295) * (bitsOp .and .u64 y1 4294967295))) (2 ^ 32)))) 4294967295) + (IntKind.u64.wrap ((bitsOp .and .u64 x0 4294967295) * (Int.fdiv y1 (2 ^ 32)))))) (2 ^ 32))), IntKind.u64.wrap (x0 * y1))))

theorem bits_Mul64.le : ∀ a, Le (bits_Mul64.e a) (bits_Mul64 a) := fun (x0, y1) => by first | exact Le.rfl | (unfold bits_Mul64.e bits_Mul64; exact Le.rfl)

def bits_Mul.e : (Int × Int) → Option (Int × Int) := fun (x0, y1) =>
  (bits_Mul64.e (x0, y1)).bind fun (r25, r25_2) =>
    some (((r25, r25_2)))

theorem bits_Mul.le : ∀ a, Le (bits_Mul.e a) (bits_Mul a) := fun (x0, y1) => by first | exact Le.bind (bits_Mul64.le (x0, y1)) (fun (r25, r25_2) => Le.rfl) | (unfold bits_Mul.e bits_Mul; exact Le.bind (bits_Mul64.le (x0, y1)) (fun (r25, r25_2) => Le.rfl))

def slices_Repeat_int_int.l1e : (List Int × Int) → Option ((List Int × Int) ⊕ (List Int)) := fun (newslice7, n8) =>
  if decide (n8 < (newslice7.length : Int)) = true then
    if 0 ≤ n8 ∧ n8 ≤ (newslice7.length : Int) then
      if 0 ≤ n8 ∧ n8 ≤ (newslice7.length : Int) then
        some (.inl ((copyRow newslice7 (((newslice7).drop 0).take ((n8 - 0).toNat)) n8.toNat (((newslice7.length : Int) - n8).toNat), IntKind.i64.wrap (n8 + ((min (((newslice7.length : Int) - n8).toNat) ((((newslice7).drop 0).take ((n8 - 0).toNat)).length) : Nat) : Int)))))
      else none
    else none
  else
    some (.inr newslice7)

def slices_Repeat_int_int.e : (List Int × Int) → Option (List Int) := fun (x0, count1) =>
  if decide (count1 < 0) = true then none else
  (bits_Mul.e (IntKind.u64.wrap ((x0.length : Int)), IntKind.u64.wrap (count1))).bind fun (r18, r18_2) =>
    if decide (r18 > 0) = false then
      if decide (r18_2 > 9223372036854775807) = true then none else
      if 0 ≤ IntKind.i64.wrap (r18_2) ∧ IntKind.i64.wrap (r18_2) ≤ IntKind.i64.wrap (r18_2) ∧ IntKind.i64.wrap (r18_2) * (8 : Nat) ≤ 140737488355328 ∧ IntKind.i64.wrap (r18_2) ≤ 9223372036854775807 then
        (iter slices_Repeat_int_int.l1e fuel ((copyRow (List.replicate (IntKind.i64.wrap (r18_2)).toNat (0 : Int)) x0 0 ((List.replicate (IntKind.i64.wrap (r18_2)).toNat (0 : Int)).length), ((min ((List.replicate (IntKind.i64.wrap (r18_2)).toNat (0 : Int)).length) x0.length : Nat) : Int)))).bind fun newslice7 =>
          some newslice7
      else none
    else none

theorem slices_Repeat_int_int.l1.le : ∀ s, Le (slices_Repeat_int_int.l1e s) (slices_Repeat_int_int.l1 s) := fun (newslice7, n8) => by first | exact Le.ite (Le.ite (Le.ite (Le.rfl) (Le.rfl)) (Le.rfl)) (Le.rfl) | (unfold slices_Repeat_int_int.l1e slices_Repeat_int_int.l1; exact Le.ite (Le.ite (Le.ite (Le.rfl) (Le.rfl)) (Le.rfl)) (Le.rfl))
theorem slices_Repeat_int_int.le : ∀ a, Le (slices_Repeat_int_int.e a) (slices_Repeat_int_int a) := fun (x0, count1) => by first | exact Le.ite (Le.rfl) (Le.bind (bits_Mul.le (IntKind.u64.wrap ((x0.length : Int)), IntKind.u64.wrap (count1))) (fun (r18, r18_2) => Le.ite (Le.ite (Le.rfl) (Le.ite (Le.bind (Le.loop slices_Repeat_int_int.l1.le) (fun newslice7 => Le.rfl)) (Le.rfl))) (Le.rfl))) | (unfold slices_Repeat_int_int.e slices_Repeat_int_int; exact Le.ite (Le.rfl) (Le.bind (bits_Mul.le (IntKind.u64.wrap ((x0.length : Int)), IntKind.u64.wrap (count1))) (fun (r18, r18_2) => Le.ite (Le.ite (Le.rfl) (Le.ite (Le.bind (Le.loop slices_Repeat_int_int.l1.le) (fun newslice7 => Le.rfl)) (Le.rfl))) (Le.rfl))))

def mould_Size.l1e : (Int × List Int × Int × Int) → Option ((Int × List Int × Int × Int) ⊕ (Int ⊕ Int)) := fun (n3, t6, t7, t8) =>
  if decide (t8 < t7) = true then
    if 0 ≤ t8 ∧ t8 < (t6.length : Int) then
      if (t6.getD t8.toNat 0 == 1) = true then
        some (.inl ((IntKind.i64.wrap (n3 + (t6.getD t8.toNat 0)), t6, t7, IntKind.i64.wrap (t8 + 1))))
      else
        if (t6.getD t8.toNat 0 == 2) = true then
          some (.inl ((IntKind.i64.wrap (n3 + (t6.getD t8.toNat 0)), t6, t7, IntKind.i64.wrap (t8 + 1))))
        else
          if (t6.getD t8.toNat 0 == 4) = true then
            some (.inl ((IntKind.i64.wrap (n3 + (t6.getD t8.toNat 0)), t6, t7, IntKind.i64.wrap (t8 + 1))))
          else
            some (.inr (.inr (-1)))
    else none
  else
    some (.inr (.inl n3))

def mould_Size.e : List Int → Option (Int) := fun widths0 =>
  (iter mould_Size.l1e fuel ((0, widths0, (widths0.length : Int), 0))).bind fun d => match d with
  | .inl n3 =>
    some n3
  | .inr t2 =>
    some t2

theorem mould_Size.l1.le : ∀ s, Le (mould_Size.l1e s) (mould_Size.l1 s) := fun (n3, t6, t7, t8) => by first | exact Le.ite (Le.ite (Le.ite (Le.rfl) (Le.ite (Le.rfl) (Le.ite (Le.rfl) (Le.rfl)))) (Le.rfl)) (Le.rfl) | (unfold mould_Size.l1e mould_Size.l1; exact Le.ite (Le.ite (Le.ite (Le.rfl) (Le.ite (Le.rfl) (Le.ite (Le.rfl) (Le.rfl)))) (Le.rfl)) (Le.rfl))
theorem mould_Size.le : ∀ a, Le (mould_Size.e a) (mould_Size a) := fun widths0 => by first | exact Le.bind (Le.loop mould_Size.l1.le) (fun d => match d with | .inl n3 => Le.rfl | .inr t2 => Le.rfl) | (unfold mould_Size.e mould_Size; exact Le.bind (Le.loop mould_Size.l1.le) (fun d => match d with | .inl n3 => Le.rfl | .inr t2 => Le.rfl))

def mould_Read.l2e : (List Int × List UInt8 × Int × Int × List Int × Int × Int × List Int × Int × Int) → Option ((List Int × List UInt8 × Int × Int × List Int × Int × Int × List Int × Int × Int) ⊕ (List Int × List UInt8 × Int × List Int × Int × Int)) := fun (values7, s1, i8, w9, t25, t26, t27, t35, t36, t37) =>
  if decide (t37 < t36) = true then
    if 0 ≤ t37 ∧ t37 < (t35.length : Int) then
      if 0 ≤ i8 ∧ i8 < (values7.length : Int) then
        if 0 ≤ IntKind.i64.wrap (8 * t37) then
          if 0 ≤ i8 ∧ i8 < (values7.length : Int) then
            some (.inl ((values7.set i8.toNat (bitsOp .or .i64 (values7.getD i8.toNat 0) (IntKind.i64.wrap (IntKind.i64.wrap (t35.getD t37.toNat 0) * 2 ^ (min (IntKind.i64.wrap (8 * t37)).toNat 64)))), s1, i8, w9, t25, t26, t27, t35, t36, IntKind.i64.wrap (t37 + 1))))
          else none
        else none
      else none
    else none
  else
    some (.inr (((values7, s1, w9, t25, t26, t27))))

def mould_Read.l1e : (List Int × List UInt8 × List Int × Int × Int) → Option ((List Int × List UInt8 × List Int × Int × Int) ⊕ (List Int)) := fun (values7, s1, t25, t26, t27) =>
  if decide (t27 < t26) = true then
    if 0 ≤ t27 ∧ t27 < (t25.length : Int) then
      if 0 ≤ t25.getD t27.toNat 0 ∧ t25.getD t27.toNat 0 ≤ (s1.length : Int) then
        (iter mould_Read.l2e fuel ((values7, s1, t27, t25.getD t27.toNat 0, t25, t26, t27, (s1.take (t25.getD t27.toNat 0).toNat).map fun b => (b.toNat : Int), (((s1.take (t25.getD t27.toNat 0).toNat).map fun b => (b.toNat : Int)).length : Int), 0))).bind fun (values7, s1, w9, t25, t26, t27) =>
          if 0 ≤ w9 ∧ w9 ≤ (s1.length : Int) then
            some (.inl ((values7, s1.drop w9.toNat, t25, t26, IntKind.i64.wrap (t27 + 1))))
          else none
      else none
    else none
  else
    some (.inr values7)

def mould_Read.e : (List Int × List UInt8) → Option (List Int × Int) := fun (widths0, s1) =>
  (mould_Size.e widths0).bind fun r13 =>
    if decide (r13 < 0) = true then
      some (((([] : List Int), 1)))
    else
      if decide ((s1.length : Int) < r13) = true then
        some (((([] : List Int), 2)))
      else
        if 0 ≤ (widths0.length : Int) ∧ (widths0.length : Int) ≤ (widths0.length : Int) ∧ (widths0.length : Int) * (8 : Nat) ≤ 140737488355328 ∧ (widths0.length : Int) ≤ 9223372036854775807 then
          (iter mould_Read.l1e fuel ((List.replicate ((widths0.length : Int)).toNat (0 : Int), s1, widths0, (widths0.length : Int), 0))).bind fun values7 =>
            some (((values7, 0)))
        else none

theorem mould_Read.l2.le : ∀ s, Le (mould_Read.l2e s) (mould_Read.l2 s) := fun (values7, s1, i8, w9, t25, t26, t27, t35, t36, t37) => by first | exact Le.ite (Le.ite (Le.ite (Le.ite (Le.ite (Le.rfl) (Le.rfl)) (Le.rfl)) (Le.rfl)) (Le.rfl)) (Le.rfl) | (unfold mould_Read.l2e mould_Read.l2; exact Le.ite (Le.ite (Le.ite (Le.ite (Le.ite (Le.rfl) (Le.rfl)) (Le.rfl)) (Le.rfl)) (Le.rfl)) (Le.rfl))
theorem mould_Read.l1.le : ∀ s, Le (mould_Read.l1e s) (mould_Read.l1 s) := fun (values7, s1, t25, t26, t27) => by first | exact Le.ite (Le.ite (Le.ite (Le.bind (Le.loop mould_Read.l2.le) (fun (values7, s1, w9, t25, t26, t27) => Le.ite (Le.rfl) (Le.rfl))) (Le.rfl)) (Le.rfl)) (Le.rfl) | (unfold mould_Read.l1e mould_Read.l1; exact Le.ite (Le.ite (Le.ite (Le.bind (Le.loop mould_Read.l2.le) (fun (values7, s1, w9, t25, t26, t27) => Le.ite (Le.rfl) (Le.rfl))) (Le.rfl)) (Le.rfl)) (Le.rfl))
theorem mould_Read.le : ∀ a, Le (mould_Read.e a) (mould_Read a) := fun (widths0, s1) => by first | exact Le.bind (mould_Size.le widths0) (fun r13 => Le.ite (Le.rfl) (Le.ite (Le.rfl) (Le.ite (Le.bind (Le.loop mould_Read.l1.le) (fun values7 => Le.rfl)) (Le.rfl)))) | (unfold mould_Read.e mould_Read; exact Le.bind (mould_Size.le widths0) (fun r13 => Le.ite (Le.rfl) (Le.ite (Le.rfl) (Le.ite (Le.bind (Le.loop mould_Read.l1.le) (fun values7 => Le.rfl)) (Le.rfl)))))

def strings_trimRightByte.l1e : (List UInt8 × Int) → Option ((List UInt8 × Int) ⊕ (List UInt8)) := fun (s0, c1) =>
  if decide ((s0.length : Int) > 0) = true then
    if 0 ≤ IntKind.i64.wrap ((s0.length : Int) - 1) ∧ IntKind.i64.wrap ((s0.length : Int) - 1) < (s0.length : Int) then
      if (((s0.getD ((IntKind.i64.wrap ((s0.length : Int) - 1)).toNat) 0).toNat : Int) == c1) = true then
        if 0 ≤ IntKind.i64.wrap ((s0.length : Int) - 1) ∧ IntKind.i64.wrap ((s0.length : Int) - 1) ≤ (s0.length : Int) then
          some (.inl ((s0.take (IntKind.i64.wrap ((s0.length : Int) - 1)).toNat, c1)))
        else none
      else
        some (.inr s0)
    else none
  else
    some (.inr s0)

def strings_trimRightByte.e : (List UInt8 × Int) → Option (List UInt8) := fun (s0, c1) =>
  (iter strings_trimRightByte.l1e fuel ((s0, c1))).bind fun s0 =>
    some s0

theorem strings_trimRightByte.l1.le : ∀ s, Le (strings_trimRightByte.l1e s) (strings_trimRightByte.l1 s) := fun (s0, c1) => by first | exact Le.ite (Le.ite (Le.ite (Le.ite (Le.rfl) (Le.rfl)) (Le.rfl)) (Le.rfl)) (Le.rfl) | (unfold strings_trimRightByte.l1e strings_trimRightByte.l1; exact Le.ite (Le.ite (Le.ite (Le.ite (Le.rfl) (Le.rfl)) (Le.rfl)) (Le.rfl)) (Le.rfl))
theorem strings_trimRightByte.le : ∀ a, Le (strings_trimRightByte.e a) (strings_trimRightByte a) := fun (s0, c1) => by first | exact Le.bind (Le.loop strings_trimRightByte.l1.le) (fun s0 => Le.rfl) | (unfold strings_trimRightByte.e strings_trimRightByte; exact Le.bind (Le.loop strings_trimRightByte.l1.le) (fun s0 => Le.rfl))

def strings_trimLeftByte.l1e : (List UInt8 × Int) → Option ((List UInt8 × Int) ⊕ (List UInt8)) := fun (s0, c1) =>
  if decide ((s0.length : Int) > 0) = true then
    if 0 ≤ (0 : Int) ∧ (0 : Int) < (s0.length : Int) then
      if (((s0.getD 0 0).toNat : Int) == c1) = true then
        if 0 ≤ (1 : Int) ∧ (1 : Int) ≤ (s0.length : Int) then
          some (.inl ((s0.drop 1, c1)))
        else none
      else
        some (.inr s0)
    else none
  else
    some (.inr s0)

def strings_trimLeftByte.e : (List UInt8 × Int) → Option (List UInt8) := fun (s0, c1) =>
  (iter strings_trimLeftByte.l1e fuel ((s0, c1))).bind fun s0 =>
    some s0

theorem strings_trimLeftByte.l1.le : ∀ s, Le (strings_trimLeftByte.l1e s) (strings_trimLeftByte.l1 s) := fun (s0, c1) => by first | exact Le.ite (Le.ite (Le.ite (Le.ite (Le.rfl) (Le.rfl)) (Le.rfl)) (Le.rfl)) (Le.rfl) | (unfold strings_trimLeftByte.l1e strings_trimLeftByte.l1; exact Le.ite (Le.ite (Le.ite (Le.ite (Le.rfl) (Le.rfl)) (Le.rfl)) (Le.rfl)) (Le.rfl))
theorem strings_trimLeftByte.le : ∀ a, Le (strings_trimLeftByte.e a) (strings_trimLeftByte a) := fun (s0, c1) => by first | exact Le.bind (Le.loop strings_trimLeftByte.l1.le) (fun s0 => Le.rfl) | (unfold strings_trimLeftByte.e strings_trimLeftByte; exact Le.bind (Le.loop strings_trimLeftByte.l1.le) (fun s0 => Le.rfl))

def strings_Trim.e : (List UInt8 × List UInt8) → Option (List UInt8) := fun (s0, cutset1) =>
  if (s0 == []) = false then
    if (cutset1 == []) = true then
      some s0
    else
      ((
        if ((cutset1.length : Int) == 1) = true then
          if 0 ≤ (0 : Int) ∧ (0 : Int) < (cutset1.length : Int) then
            some (((s0, cutset1, decide (((cutset1.getD 0 0).toNat : Int) < 128))))
          else none
        else
          some (((s0, cutset1, false)))) : Option (List UInt8 × List UInt8 × Bool)).bind fun (s0, cutset1, t21) =>
        if t21 = true then
          if 0 ≤ (0 : Int) ∧ (0 : Int) < (cutset1.length : Int) then
            (strings_trimRightByte.e (s0, ((cutset1.getD 0 0).toNat : Int))).bind fun r25 =>
              if 0 ≤ (0 : Int) ∧ (0 : Int) < (cutset1.length : Int) then
                (strings_trimLeftByte.e (r25, ((cutset1.getD 0 0).toNat : Int))).bind fun r28 =>
                  some r28
              else none
          else none
        else none
  else
    some s0

theorem strings_Trim.le : ∀ a, Le (strings_Trim.e a) (strings_Trim a) := fun (s0, cutset1) => by first | exact Le.ite (Le.ite (Le.rfl) (Le.bind (Le.ite (Le.ite (Le.rfl) (Le.rfl)) (Le.rfl)) (fun (s0, cutset1, t21) => Le.ite (Le.ite (Le.bind (strings_trimRightByte.le (s0, ((cutset1.getD 0 0).toNat : Int))) (fun r25 => Le.ite (Le.bind (strings_trimLeftByte.le (r25, ((cutset1.getD 0 0).toNat : Int))) (fun r28 => Le.rfl)) (Le.rfl))) (Le.rfl)) (Le.rfl)))) (Le.rfl) | (unfold strings_Trim.e strings_Trim; exact Le.ite (Le.ite (Le.rfl) (Le.bind (Le.ite (Le.ite (Le.rfl) (Le.rfl)) (Le.rfl)) (fun (s0, cutset1, t21) => Le.ite (Le.ite (Le.bind (strings_trimRightByte.le (s0, ((cutset1.getD 0 0).toNat : Int))) (fun r25 => Le.ite (Le.bind (strings_trimLeftByte.le (r25, ((cutset1.getD 0 0).toNat : Int))) (fun r28 => Le.rfl)) (Le.rfl))) (Le.rfl)) (Le.rfl)))) (Le.rfl))

def log_Log_free.e : (((List (List UInt8) × (List (Int × List UInt8)) × Int × Int) × Bool × Int) × Int) → Option (Bool) := fun (l0, i1) =>
  if decide (i1 ≥ 0) = true then
    (slab_Slab_Size.e l0.1).bind fun r13 =>
      if decide (i1 < r13) = true then
        if decide (i1 < 1) = false then
          some ((decide (i1 ≥ 42)))
        else
          some true
      else
        some false
  else
    some false

theorem log_Log_free.le : ∀ a, Le (log_Log_free.e a) (log_Log_free a) := fun (l0, i1) => by first | exact Le.ite (Le.bind (slab_Slab_Size.le l0.1) (fun r13 => Le.ite (Le.ite (Le.rfl) (Le.rfl)) (Le.rfl))) (Le.rfl) | (unfold log_Log_free.e log_Log_free; exact Le.ite (Le.bind (slab_Slab_Size.le l0.1) (fun r13 => Le.ite (Le.ite (Le.rfl) (Le.rfl)) (Le.rfl))) (Le.rfl))

def log_Log_right.l1e : ((List (Int × Int)) × ((List (List UInt8) × (List (Int × List UInt8)) × Int × Int) × Bool × Int) × (List (Int × List UInt8)) × Int × Int) → Option (((List (Int × Int)) × ((List (List UInt8) × (List (Int × List UInt8)) × Int × Int) × Bool × Int) × (List (Int × List UInt8)) × Int × Int) ⊕ (Unit ⊕ Bool)) := fun (seen5, l0, t9, t10, t11) =>
  if decide (t11 < t10) = true then
    if 0 ≤ t11 ∧ t11 < (t9.length : Int) then
      (log_Log_free.e (l0, (t9.getD t11.toNat (0, [])).1)).bind fun r23 =>
        if (!r23) = false then
          if ((((t9.getD t11.toNat (0, [])).2).length : Int) != 128) = false then
            if decide (((mget (K := I) (V := I) (mput (K := I) (V := I) seen5 ((t9.getD t11.toNat (0, [])).1) (IntKind.i64.wrap (((mget (K := I) (V := I) seen5 ((t9.getD t11.toNat (0, [])).1)).getD 0) + 1))) ((t9.getD t11.toNat (0, [])).1)).getD 0) > 1) = true then
              some (.inr (.inr false))
            else
              some (.inl ((mput (K := I) (V := I) seen5 ((t9.getD t11.toNat (0, [])).1) (IntKind.i64.wrap (((mget (K := I) (V := I) seen5 ((t9.getD t11.toNat (0, [])).1)).getD 0) + 1)), l0, t9, t10, IntKind.i64.wrap (t11 + 1))))
          else
            some (.inr (.inr false))
        else
          some (.inr (.inr false))
    else none
  else
    some (.inr (.inl ()))

def log_Log_right.e : (((List (List UInt8) × (List (Int × List UInt8)) × Int × Int) × Bool × Int) × List (Int × List UInt8)) → Option (Bool) := fun (l0, c1) =>
  (iter log_Log_right.l1e fuel ((([] : List (Int × Int)), l0, c1, (c1.length : Int), 0))).bind fun d => match d with
  | .inl _ =>
    some true
  | .inr t4 =>
    some t4

theorem log_Log_right.l1.le : ∀ s, Le (log_Log_right.l1e s) (log_Log_right.l1 s) := fun (seen5, l0, t9, t10, t11) => by first | exact Le.ite (Le.ite (Le.bind (log_Log_free.le (l0, (t9.getD t11.toNat (0, [])).1)) (fun r23 => Le.ite (Le.ite (Le.ite (Le.rfl) (Le.rfl)) (Le.rfl)) (Le.rfl))) (Le.rfl)) (Le.rfl) | (unfold log_Log_right.l1e log_Log_right.l1; exact Le.ite (Le.ite (Le.bind (log_Log_free.le (l0, (t9.getD t11.toNat (0, [])).1)) (fun r23 => Le.ite (Le.ite (Le.ite (Le.rfl) (Le.rfl)) (Le.rfl)) (Le.rfl))) (Le.rfl)) (Le.rfl))
theorem log_Log_right.le : ∀ a, Le (log_Log_right.e a) (log_Log_right a) := fun (l0, c1) => by first | exact Le.bind (Le.loop log_Log_right.l1.le) (fun d => match d with | .inl _ => Le.rfl | .inr t4 => Le.rfl) | (unfold log_Log_right.e log_Log_right; exact Le.bind (Le.loop log_Log_right.l1.le) (fun d => match d with | .inl _ => Le.rfl | .inr t4 => Le.rfl))

def log_Log_read_2.l1e : (((Bool × Int) × (Int × Int) × List (List UInt8) × (List (Int × List UInt8)) × List (Int × List UInt8)) × List Int × Int × Int) → Option ((((Bool × Int) × (Int × Int) × List (List UInt8) × (List (Int × List UInt8)) × List (Int × List UInt8)) × List Int × Int × Int) ⊕ ((Bool × Int) × (Int × Int) × List (List UInt8) × (List (Int × List UInt8)) × List (Int × List UInt8))) := fun (((l0b, l0c), (o1c, o1d), o2, o3, c9), t43, t44, t45) =>
  if decide (t45 < t44) = true then
    if 0 ≤ t45 ∧ t45 < (t43.length : Int) then
      (slab_Slab_Read.e ((o2, o3, o1c, o1d), IntKind.i64.wrap (2 + t45))).bind fun r58 =>
        if roomOk (c9.length + (([(t43.getD t45.toNat 0, r58)] : List (Int × List UInt8))).length) 24 then
          some (.inl ((((l0b, l0c), (o1c, o1d), o2, o3, c9 ++ (([(t43.getD t45.toNat 0, r58)] : List (Int × List UInt8)))), t43, t44, IntKind.i64.wrap (t45 + 1))))
        else none
    else none
  else
    some (.inr ((((l0b, l0c), (o1c, o1d), o2, o3, c9))))

def log_Log_read_2.e : ((Bool × Int) × (Int × Int) × List (List UInt8) × List (Int × List UInt8)) → Option (((Bool × Int) × (Int × Int) × List (List UInt8) × List (Int × List UInt8)) × (List (Int × List UInt8)) × Bool) := fun ((l0b, l0c), (o1c, o1d), o2, o3) =>
  (slab_Slab_Read.e ((o2, o3, o1c, o1d), 1)).bind fun r16 =>
    if 0 ≤ (0 : Int) ∧ (0 : Int) < (r16.length : Int) then
      if decide (IntKind.i64.wrap (((r16.getD 0 0).toNat : Int)) > 40) = true then
        some (((((l0b, l0c), (o1c, o1d), o2, o3), ([] : List (Int × List UInt8)), false)))
      else
        (slices_Repeat_int_int.e (([2] : List Int), IntKind.i64.wrap (((r16.getD 0 0).toNat : Int)))).bind fun r24 =>
          if 0 ≤ (1 : Int) ∧ (1 : Int) ≤ (r16.length : Int) then
            (mould_Read.e (r24, r16.drop 1)).bind fun (r29, r29_2) =>
              if (r29_2 != 0) = false then
                (mould_Size.e r24).bind fun r37 =>
                  if 0 ≤ IntKind.i64.wrap (1 + r37) ∧ IntKind.i64.wrap (1 + r37) ≤ (r16.length : Int) then
                    (strings_Trim.e (r16.drop (IntKind.i64.wrap (1 + r37)).toNat, ([0] : List UInt8))).bind fun r40 =>
                      if (!(r40 == [])) = true then
                        some (((((l0b, l0c), (o1c, o1d), o2, o3), ([] : List (Int × List UInt8)), false)))
                      else
                        (iter log_Log_read_2.l1e fuel ((((l0b, l0c), (o1c, o1d), o2, o3, []), r29, (r29.length : Int), 0))).bind fun ((l0b, l0c), (o1c, o1d), o2, o3, c9) =>
                          (log_Log_right.e (((o2, o3, o1c, o1d), l0b, l0c), c9)).bind fun r66 =>
                            some (((((l0b, l0c), (o1c, o1d), o2, o3), c9, r66)))
                  else none
              else
                some (((((l0b, l0c), (o1c, o1d), o2, o3), ([] : List (Int × List UInt8)), false)))
          else none
    else none

theorem log_Log_read_2.l1.le : ∀ s, Le (log_Log_read_2.l1e s) (log_Log_read_2.l1 s) := fun (((l0b, l0c), (o1c, o1d), o2, o3, c9), t43, t44, t45) => by first | exact Le.ite (Le.ite (Le.bind (slab_Slab_Read.le ((o2, o3, o1c, o1d), IntKind.i64.wrap (2 + t45))) (fun r58 => Le.ite (Le.rfl) (Le.rfl))) (Le.rfl)) (Le.rfl) | (unfold log_Log_read_2.l1e log_Log_read_2.l1; exact Le.ite (Le.ite (Le.bind (slab_Slab_Read.le ((o2, o3, o1c, o1d), IntKind.i64.wrap (2 + t45))) (fun r58 => Le.ite (Le.rfl) (Le.rfl))) (Le.rfl)) (Le.rfl))
theorem log_Log_read_2.le : ∀ a, Le (log_Log_read_2.e a) (log_Log_read_2 a) := fun ((l0b, l0c), (o1c, o1d), o2, o3) => by first | exact Le.bind (slab_Slab_Read.le ((o2, o3, o1c, o1d), 1)) (fun r16 => Le.ite (Le.ite (Le.rfl) (Le.bind (slices_Repeat_int_int.le (([2] : List Int), IntKind.i64.wrap (((r16.getD 0 0).toNat : Int)))) (fun r24 => Le.ite (Le.bind (mould_Read.le (r24, r16.drop 1)) (fun (r29, r29_2) => Le.ite (Le.bind (mould_Size.le r24) (fun r37 => Le.ite (Le.bind (strings_Trim.le (r16.drop (IntKind.i64.wrap (1 + r37)).toNat, ([0] : List UInt8))) (fun r40 => Le.ite (Le.rfl) (Le.bind (Le.loop log_Log_read_2.l1.le) (fun ((l0b, l0c), (o1c, o1d), o2, o3, c9) => Le.bind (log_Log_right.le (((o2, o3, o1c, o1d), l0b, l0c), c9)) (fun r66 => Le.rfl))))) (Le.rfl))) (Le.rfl))) (Le.rfl)))) (Le.rfl)) | (unfold log_Log_read_2.e log_Log_read_2; exact Le.bind (slab_Slab_Read.le ((o2, o3, o1c, o1d), 1)) (fun r16 => Le.ite (Le.ite (Le.rfl) (Le.bind (slices_Repeat_int_int.le (([2] : List Int), IntKind.i64.wrap (((r16.getD 0 0).toNat : Int)))) (fun r24 => Le.ite (Le.bind (mould_Read.le (r24, r16.drop 1)) (fun (r29, r29_2) => Le.ite (Le.bind (mould_Size.le r24) (fun r37 => Le.ite (Le.bind (strings_Trim.le (r16.drop (IntKind.i64.wrap (1 + r37)).toNat, ([0] : List UInt8))) (fun r40 => Le.ite (Le.rfl) (Le.bind (Le.loop log_Log_read_2.l1.le) (fun ((l0b, l0c), (o1c, o1d), o2, o3, c9) => Le.bind (log_Log_right.le (((o2, o3, o1c, o1d), l0b, l0c), c9)) (fun r66 => Le.rfl))))) (Le.rfl))) (Le.rfl))) (Le.rfl)))) (Le.rfl)))

def slab_Slab_call.e : ((Int × Int) × List (List UInt8) × List (Int × List UInt8)) → Option (((Int × Int) × List (List UInt8) × List (Int × List UInt8)) × Int) := fun ((s0c, s0d), o1, o2) =>
  ((
    if (s0d == 0) = true then
      some (.inr (((((IntKind.i64.wrap (s0c + 1), s0d), o1, o2), 14))))
    else
      if decide (s0d > 0) = true then
        some (.inl (((s0c, IntKind.i64.wrap (s0d - 1)), o1, o2)))
      else
        some (.inl (((s0c, s0d), o1, o2)))) : Option (((Int × Int) × List (List UInt8) × List (Int × List UInt8)) ⊕ (((Int × Int) × List (List UInt8) × List (Int × List UInt8)) × Int))).bind fun d => match d with
  | .inl ((s0c, s0d), o1, o2) =>
    some (((((IntKind.i64.wrap (s0c + 1), s0d), o1, o2), 0)))
  | .inr ((((o0c, o0d), o1, o2), t2)) =>
    some (((((o0c, o0d), o1, o2), t2)))

theorem slab_Slab_call.le : ∀ a, Le (slab_Slab_call.e a) (slab_Slab_call a) := fun ((s0c, s0d), o1, o2) => by first | exact Le.bind (Le.ite (Le.rfl) (Le.ite (Le.rfl) (Le.rfl))) (fun d => match d with | .inl ((s0c, s0d), o1, o2) => Le.rfl | .inr ((((o0c, o0d), o1, o2), t2)) => Le.rfl) | (unfold slab_Slab_call.e slab_Slab_call; exact Le.bind (Le.ite (Le.rfl) (Le.ite (Le.rfl) (Le.rfl))) (fun d => match d with | .inl ((s0c, s0d), o1, o2) => Le.rfl | .inr ((((o0c, o0d), o1, o2), t2)) => Le.rfl))

def slab_Slab_Write.e : (((Int × Int) × List (List UInt8) × List (Int × List UInt8)) × Int × List UInt8) → Option (((Int × Int) × List (List UInt8) × List (Int × List UInt8)) × Int) := fun (((s0c, s0d), o1, o2), i1, data2) =>
  (slab_Slab_call.e ((s0c, s0d), o1, o2)).bind fun (((r9, r9_2), r9_3, r9_4), r9_5) =>
    if (r9_5 != 0) = true then
      some (((((r9, r9_2), r9_3, r9_4), r9_5)))
    else
      (slab_Slab_there.e ((r9_3, r9_4, r9, r9_2), i1)).bind fun r15 =>
        if (!r15) = false then
          if decide ((data2.length : Int) > 128) = true then
            some (((((r9, r9_2), r9_3, r9_4), 1)))
          else
            (slab_whole.e data2).bind fun r28 =>
              some (((((r9, r9_2), r9_3, mput (K := I) (V := .str) r9_4 i1 r28), 0)))
        else
          some (((((r9, r9_2), r9_3, r9_4), 1)))

theorem slab_Slab_Write.le : ∀ a, Le (slab_Slab_Write.e a) (slab_Slab_Write a) := fun (((s0c, s0d), o1, o2), i1, data2) => by first | exact Le.bind (slab_Slab_call.le ((s0c, s0d), o1, o2)) (fun (((r9, r9_2), r9_3, r9_4), r9_5) => Le.ite (Le.rfl) (Le.bind (slab_Slab_there.le ((r9_3, r9_4, r9, r9_2), i1)) (fun r15 => Le.ite (Le.ite (Le.rfl) (Le.bind (slab_whole.le data2) (fun r28 => Le.rfl))) (Le.rfl)))) | (unfold slab_Slab_Write.e slab_Slab_Write; exact Le.bind (slab_Slab_call.le ((s0c, s0d), o1, o2)) (fun (((r9, r9_2), r9_3, r9_4), r9_5) => Le.ite (Le.rfl) (Le.bind (slab_Slab_there.le ((r9_3, r9_4, r9, r9_2), i1)) (fun r15 => Le.ite (Le.ite (Le.rfl) (Le.bind (slab_whole.le data2) (fun r28 => Le.rfl))) (Le.rfl)))))

def maps_Keys_map_int_string_int_string.e : (List (Int × List UInt8)) → Option (List (Int × List UInt8)) := fun m0 =>
  some m0

theorem maps_Keys_map_int_string_int_string.le : ∀ a, Le (maps_Keys_map_int_string_int_string.e a) (maps_Keys_map_int_string_int_string a) := fun m0 => by first | exact Le.rfl | (unfold maps_Keys_map_int_string_int_string.e maps_Keys_map_int_string_int_string; exact Le.rfl)

def slab_Slab_Loose.e : ((Int × Int) × List (List UInt8) × List (Int × List UInt8)) → Option (((Int × Int) × List (List UInt8) × List (Int × List UInt8)) × List Int) := fun ((s0c, s0d), o1, o2) =>
  (maps_Keys_map_int_string_int_string.e o2).bind fun r9 =>
    (slices_Sorted r9).bind fun (r10, r10_2) =>
      some (((((s0c, s0d), o1, r10), r10_2)))

theorem slab_Slab_Loose.le : ∀ a, Le (slab_Slab_Loose.e a) (slab_Slab_Loose a) := fun ((s0c, s0d), o1, o2) => by first | exact Le.bind (maps_Keys_map_int_string_int_string.le o2) (fun r9 => Le.bind Le.rfl (fun (r10, r10_2) => Le.rfl)) | (unfold slab_Slab_Loose.e slab_Slab_Loose; exact Le.bind (maps_Keys_map_int_string_int_string.le o2) (fun r9 => Le.bind Le.rfl (fun (r10, r10_2) => Le.rfl)))

def slab_Slab_Flush_1.e : Int → Option (Bool) := fun t0 =>
  some true

theorem slab_Slab_Flush_1.le : ∀ a, Le (slab_Slab_Flush_1.e a) (slab_Slab_Flush_1 a) := fun t0 => by first | exact Le.rfl | (unfold slab_Slab_Flush_1.e slab_Slab_Flush_1; exact Le.rfl)

def slab_Slab_keep.l1e : (((Int × Int) × List (List UInt8) × List (Int × List UInt8)) × List Int × Int × Int) → Option ((((Int × Int) × List (List UInt8) × List (Int × List UInt8)) × List Int × Int × Int) ⊕ ((Int × Int) × List (List UInt8) × List (Int × List UInt8))) := fun (((s0c, s0d), o1, o2), t7, t8, t9) =>
  if decide (t9 < t8) = true then
    if 0 ≤ t9 ∧ t9 < (t7.length : Int) then
      (slab_Slab_Flush_1.e t9).bind fun r16 =>
        if r16 = true then
          if 0 ≤ t7.getD t9.toNat 0 ∧ t7.getD t9.toNat 0 < (o1.length : Int) then
            some (.inl ((((s0c, s0d), o1.set ((t7.getD t9.toNat 0).toNat) (((mget (K := I) (V := .str) o2 (t7.getD t9.toNat 0)).getD [])), o2), t7, t8, IntKind.i64.wrap (t9 + 1))))
          else none
        else
          some (.inl ((((s0c, s0d), o1, o2), t7, t8, IntKind.i64.wrap (t9 + 1))))
    else none
  else
    some (.inr ((((s0c, s0d), o1, o2))))

def slab_Slab_keep.e : ((Int × Int) × List (List UInt8) × List (Int × List UInt8)) → Option ((Int × Int) × List (List UInt8) × List (Int × List UInt8)) := fun ((s0c, s0d), o1, o2) =>
  (slab_Slab_Loose.e ((s0c, s0d), o1, o2)).bind fun ((_, _, _), r7) =>
    (iter slab_Slab_keep.l1e fuel ((((s0c, s0d), o1, o2), r7, (r7.length : Int), 0))).bind fun ((s0c, s0d), o1, o2) =>
      some ((((s0c, s0d), o1, ([] : List (Int × List UInt8)))))

theorem slab_Slab_keep.l1.le : ∀ s, Le (slab_Slab_keep.l1e s) (slab_Slab_keep.l1 s) := fun (((s0c, s0d), o1, o2), t7, t8, t9) => by first | exact Le.ite (Le.ite (Le.bind (slab_Slab_Flush_1.le t9) (fun r16 => Le.ite (Le.ite (Le.rfl) (Le.rfl)) (Le.rfl))) (Le.rfl)) (Le.rfl) | (unfold slab_Slab_keep.l1e slab_Slab_keep.l1; exact Le.ite (Le.ite (Le.bind (slab_Slab_Flush_1.le t9) (fun r16 => Le.ite (Le.ite (Le.rfl) (Le.rfl)) (Le.rfl))) (Le.rfl)) (Le.rfl))
theorem slab_Slab_keep.le : ∀ a, Le (slab_Slab_keep.e a) (slab_Slab_keep a) := fun ((s0c, s0d), o1, o2) => by first | exact Le.bind (slab_Slab_Loose.le ((s0c, s0d), o1, o2)) (fun ((_, _, _), r7) => Le.bind (Le.loop slab_Slab_keep.l1.le) (fun ((s0c, s0d), o1, o2) => Le.rfl)) | (unfold slab_Slab_keep.e slab_Slab_keep; exact Le.bind (slab_Slab_Loose.le ((s0c, s0d), o1, o2)) (fun ((_, _, _), r7) => Le.bind (Le.loop slab_Slab_keep.l1.le) (fun ((s0c, s0d), o1, o2) => Le.rfl)))

def slab_Slab_Flush.e : ((Int × Int) × List (List UInt8) × List (Int × List UInt8)) → Option (((Int × Int) × List (List UInt8) × List (Int × List UInt8)) × Int) := fun ((s0c, s0d), o1, o2) =>
  (slab_Slab_call.e ((s0c, s0d), o1, o2)).bind fun (((r5, r5_2), r5_3, r5_4), r5_5) =>
    if (r5_5 == 0) = true then
      (slab_Slab_keep.e ((r5, r5_2), r5_3, r5_4)).bind fun ((r9, r9_2), r9_3, r9_4) =>
        some (((((r9, r9_2), r9_3, r9_4), r5_5)))
    else
      some (((((r5, r5_2), r5_3, r5_4), r5_5)))

theorem slab_Slab_Flush.le : ∀ a, Le (slab_Slab_Flush.e a) (slab_Slab_Flush a) := fun ((s0c, s0d), o1, o2) => by first | exact Le.bind (slab_Slab_call.le ((s0c, s0d), o1, o2)) (fun (((r5, r5_2), r5_3, r5_4), r5_5) => Le.ite (Le.bind (slab_Slab_keep.le ((r5, r5_2), r5_3, r5_4)) (fun ((r9, r9_2), r9_3, r9_4) => Le.rfl)) (Le.rfl)) | (unfold slab_Slab_Flush.e slab_Slab_Flush; exact Le.bind (slab_Slab_call.le ((s0c, s0d), o1, o2)) (fun (((r5, r5_2), r5_3, r5_4), r5_5) => Le.ite (Le.bind (slab_Slab_keep.le ((r5, r5_2), r5_3, r5_4)) (fun ((r9, r9_2), r9_3, r9_4) => Le.rfl)) (Le.rfl)))

def log_Log_write.l1e : (((Bool × Int) × (Int × Int) × List (List UInt8) × List (Int × List UInt8)) × (List (Int × List UInt8)) × Int × Int) → Option ((((Bool × Int) × (Int × Int) × List (List UInt8) × List (Int × List UInt8)) × (List (Int × List UInt8)) × Int × Int) ⊕ (((Bool × Int) × (Int × Int) × List (List UInt8) × List (Int × List UInt8)) ⊕ (((Bool × Int) × (Int × Int) × List (List UInt8) × List (Int × List UInt8)) × Int))) := fun (((l0b, l0c), (o1c, o1d), o2, o3), t8, t9, t10) =>
  if decide (t10 < t9) = true then
    if 0 ≤ t10 ∧ t10 < (t8.length : Int) then
      (slab_Slab_Write.e (((o1c, o1d), o2, o3), (t8.getD t10.toNat (0, [])).1, (t8.getD t10.toNat (0, [])).2)).bind fun (((r22, r22_2), r22_3, r22_4), r22_5) =>
        if (r22_5 != 0) = true then
          some (.inr (.inr (((((l0b, l0c), (r22, r22_2), r22_3, r22_4), r22_5)))))
        else
          some (.inl ((((l0b, l0c), (r22, r22_2), r22_3, r22_4), t8, t9, IntKind.i64.wrap (t10 + 1))))
    else none
  else
    some (.inr (.inl (((l0b, l0c), (o1c, o1d), o2, o3))))

def log_Log_write.e : (((Bool × Int) × (Int × Int) × List (List UInt8) × List (Int × List UInt8)) × List (Int × List UInt8)) → Option (((Bool × Int) × (Int × Int) × List (List UInt8) × List (Int × List UInt8)) × Int) := fun (((l0b, l0c), (o1c, o1d), o2, o3), c1) =>
  (iter log_Log_write.l1e fuel ((((l0b, l0c), (o1c, o1d), o2, o3), c1, (c1.length : Int), 0))).bind fun d => match d with
  | .inl ((l0b, l0c), (o1c, o1d), o2, o3) =>
    (slab_Slab_Flush.e ((o1c, o1d), o2, o3)).bind fun (((r31, r31_2), r31_3, r31_4), r31_5) =>
      some (((((l0b, l0c), (r31, r31_2), r31_3, r31_4), r31_5)))
  | .inr ((((o0b, o0c), (o1c, o1d), o2, o3), t4)) =>
    some (((((o0b, o0c), (o1c, o1d), o2, o3), t4)))

theorem log_Log_write.l1.le : ∀ s, Le (log_Log_write.l1e s) (log_Log_write.l1 s) := fun (((l0b, l0c), (o1c, o1d), o2, o3), t8, t9, t10) => by first | exact Le.ite (Le.ite (Le.bind (slab_Slab_Write.le (((o1c, o1d), o2, o3), (t8.getD t10.toNat (0, [])).1, (t8.getD t10.toNat (0, [])).2)) (fun (((r22, r22_2), r22_3, r22_4), r22_5) => Le.ite (Le.rfl) (Le.rfl))) (Le.rfl)) (Le.rfl) | (unfold log_Log_write.l1e log_Log_write.l1; exact Le.ite (Le.ite (Le.bind (slab_Slab_Write.le (((o1c, o1d), o2, o3), (t8.getD t10.toNat (0, [])).1, (t8.getD t10.toNat (0, [])).2)) (fun (((r22, r22_2), r22_3, r22_4), r22_5) => Le.ite (Le.rfl) (Le.rfl))) (Le.rfl)) (Le.rfl))
theorem log_Log_write.le : ∀ a, Le (log_Log_write.e a) (log_Log_write a) := fun (((l0b, l0c), (o1c, o1d), o2, o3), c1) => by first | exact Le.bind (Le.loop log_Log_write.l1.le) (fun d => match d with | .inl ((l0b, l0c), (o1c, o1d), o2, o3) => Le.bind (slab_Slab_Flush.le ((o1c, o1d), o2, o3)) (fun (((r31, r31_2), r31_3, r31_4), r31_5) => Le.rfl) | .inr ((((o0b, o0c), (o1c, o1d), o2, o3), t4)) => Le.rfl) | (unfold log_Log_write.e log_Log_write; exact Le.bind (Le.loop log_Log_write.l1.le) (fun d => match d with | .inl ((l0b, l0c), (o1c, o1d), o2, o3) => Le.bind (slab_Slab_Flush.le ((o1c, o1d), o2, o3)) (fun (((r31, r31_2), r31_3, r31_4), r31_5) => Le.rfl) | .inr ((((o0b, o0c), (o1c, o1d), o2, o3), t4)) => Le.rfl))

def log_Log_apply_1.e : (((Bool × Int) × (Int × Int) × List (List UInt8) × List (Int × List UInt8)) × List (Int × List UInt8)) → Option (((Bool × Int) × (Int × Int) × List (List UInt8) × List (Int × List UInt8)) × Int) := fun (((o1b, o1c), (o2c, o2d), o3, o4), t1) =>
  (log_Log_write.e (((o1b, o1c), (o2c, o2d), o3, o4), t1)).bind fun (((r5, r5_2), (r5_3, r5_4), r5_5, r5_6), r5_7) =>
    some (((((r5, r5_2), (r5_3, r5_4), r5_5, r5_6), r5_7)))

theorem log_Log_apply_1.le : ∀ a, Le (log_Log_apply_1.e a) (log_Log_apply_1 a) := fun (((o1b, o1c), (o2c, o2d), o3, o4), t1) => by first | exact Le.bind (log_Log_write.le (((o1b, o1c), (o2c, o2d), o3, o4), t1)) (fun (((r5, r5_2), (r5_3, r5_4), r5_5, r5_6), r5_7) => Le.rfl) | (unfold log_Log_apply_1.e log_Log_apply_1; exact Le.bind (log_Log_write.le (((o1b, o1c), (o2c, o2d), o3, o4), t1)) (fun (((r5, r5_2), (r5_3, r5_4), r5_5, r5_6), r5_7) => Le.rfl))

def mould_Write.l2e : (List Int × List Int × Int × Int × List Int × Int × Int) → Option ((List Int × List Int × Int × Int × List Int × Int × Int) ⊕ (List Int × List Int × List Int × Int × Int)) := fun (b6, widths0, v8, w9, t23, t24, t25) =>
  if decide (w9 > 0) = true then
    if roomOk (b6.length + (([IntKind.u8.wrap (v8)] : List Int)).length) 1 then
      some (.inl ((b6 ++ (([IntKind.u8.wrap (v8)] : List Int)), widths0, Int.fdiv v8 (2 ^ 8), IntKind.i64.wrap (w9 - 1), t23, t24, t25)))
    else none
  else
    some (.inr (((b6, widths0, t23, t24, t25))))

def mould_Write.l1e : (List Int × List Int × List Int × Int × Int) → Option ((List Int × List Int × List Int × Int × Int) ⊕ ((List Int) ⊕ (List UInt8 × Int))) := fun (b6, widths0, t23, t24, t25) =>
  if decide (t25 < t24) = true then
    if 0 ≤ t25 ∧ t25 < (t23.length : Int) then
      if 0 ≤ t25 ∧ t25 < (widths0.length : Int) then
        if decide (t23.getD t25.toNat 0 < 0) = false then
          if 0 ≤ IntKind.i64.wrap (8 * (widths0.getD t25.toNat 0)) then
            if (Int.fdiv (t23.getD t25.toNat 0) (2 ^ (min (IntKind.i64.wrap (8 * (widths0.getD t25.toNat 0))).toNat 64)) != 0) = true then
              some (.inr (.inr ((([], 3)))))
            else
              (iter mould_Write.l2e fuel ((b6, widths0, t23.getD t25.toNat 0, widths0.getD t25.toNat 0, t23, t24, t25))).bind fun (b6, widths0, t23, t24, t25) =>
                some (.inl ((b6, widths0, t23, t24, IntKind.i64.wrap (t25 + 1))))
          else none
        else
          some (.inr (.inr ((([], 3)))))
      else none
    else none
  else
    some (.inr (.inl b6))

def mould_Write.e : (List Int × List Int) → Option (List UInt8 × Int) := fun (widths0, values1) =>
  (mould_Size.e widths0).bind fun r11 =>
    if decide (r11 < 0) = false then
      if ((widths0.length : Int) != (values1.length : Int)) = true then
        some ((([], 1)))
      else
        (mould_Size.e widths0).bind fun r21 =>
          if 0 ≤ (0 : Int) ∧ (0 : Int) ≤ r21 ∧ r21 * (1 : Nat) ≤ 140737488355328 ∧ r21 ≤ 9223372036854775807 then
            (iter mould_Write.l1e fuel ((List.replicate 0 (0 : Int), widths0, values1, (values1.length : Int), 0))).bind fun d => match d with
            | .inl b6 =>
              some (((b6.map fun (n : Int) => UInt8.ofNat n.toNat, 0)))
            | .inr ((t4, t5)) =>
              some (((t4, t5)))
          else none
    else
      some ((([], 1)))

theorem mould_Write.l2.le : ∀ s, Le (mould_Write.l2e s) (mould_Write.l2 s) := fun (b6, widths0, v8, w9, t23, t24, t25) => by first | exact Le.ite (Le.ite (Le.rfl) (Le.rfl)) (Le.rfl) | (unfold mould_Write.l2e mould_Write.l2; exact Le.ite (Le.ite (Le.rfl) (Le.rfl)) (Le.rfl))
theorem mould_Write.l1.le : ∀ s, Le (mould_Write.l1e s) (mould_Write.l1 s) := fun (b6, widths0, t23, t24, t25) => by first | exact Le.ite (Le.ite (Le.ite (Le.ite (Le.ite (Le.ite (Le.rfl) (Le.bind (Le.loop mould_Write.l2.le) (fun (b6, widths0, t23, t24, t25) => Le.rfl))) (Le.rfl)) (Le.rfl)) (Le.rfl)) (Le.rfl)) (Le.rfl) | (unfold mould_Write.l1e mould_Write.l1; exact Le.ite (Le.ite (Le.ite (Le.ite (Le.ite (Le.ite (Le.rfl) (Le.bind (Le.loop mould_Write.l2.le) (fun (b6, widths0, t23, t24, t25) => Le.rfl))) (Le.rfl)) (Le.rfl)) (Le.rfl)) (Le.rfl)) (Le.rfl))
theorem mould_Write.le : ∀ a, Le (mould_Write.e a) (mould_Write a) := fun (widths0, values1) => by first | exact Le.bind (mould_Size.le widths0) (fun r11 => Le.ite (Le.ite (Le.rfl) (Le.bind (mould_Size.le widths0) (fun r21 => Le.ite (Le.bind (Le.loop mould_Write.l1.le) (fun d => match d with | .inl b6 => Le.rfl | .inr ((t4, t5)) => Le.rfl)) (Le.rfl)))) (Le.rfl)) | (unfold mould_Write.e mould_Write; exact Le.bind (mould_Size.le widths0) (fun r11 => Le.ite (Le.ite (Le.rfl) (Le.bind (mould_Size.le widths0) (fun r21 => Le.ite (Le.bind (Le.loop mould_Write.l1.le) (fun d => match d with | .inl b6 => Le.rfl | .inr ((t4, t5)) => Le.rfl)) (Le.rfl)))) (Le.rfl)))

def log_headOf.e : List Int → Option (List (Int × List UInt8)) := fun blocks0 =>
  (slices_Repeat_int_int.e (([2] : List Int), (blocks0.length : Int))).bind fun r9 =>
    (mould_Write.e (r9, blocks0)).bind fun (r11, r11_2) =>
      if ((([IntKind.u8.wrap ((blocks0.length : Int))] : List Int)).map fun (n : Int) => UInt8.ofNat n.toNat).length + r11.length ≤ 9223372036854775807 then
        (mould_Pad.e (((([IntKind.u8.wrap ((blocks0.length : Int))] : List Int)).map fun (n : Int) => UInt8.ofNat n.toNat) ++ r11, 128)).bind fun (r22, r22_2) =>
          some ((([(1, r22)] : List (Int × List UInt8))))
      else none

theorem log_headOf.le : ∀ a, Le (log_headOf.e a) (log_headOf a) := fun blocks0 => by first | exact Le.bind (slices_Repeat_int_int.le (([2] : List Int), (blocks0.length : Int))) (fun r9 => Le.bind (mould_Write.le (r9, blocks0)) (fun (r11, r11_2) => Le.ite (Le.bind (mould_Pad.le (((([IntKind.u8.wrap ((blocks0.length : Int))] : List Int)).map fun (n : Int) => UInt8.ofNat n.toNat) ++ r11, 128)) (fun (r22, r22_2) => Le.rfl)) (Le.rfl))) | (unfold log_headOf.e log_headOf; exact Le.bind (slices_Repeat_int_int.le (([2] : List Int), (blocks0.length : Int))) (fun r9 => Le.bind (mould_Write.le (r9, blocks0)) (fun (r11, r11_2) => Le.ite (Le.bind (mould_Pad.le (((([IntKind.u8.wrap ((blocks0.length : Int))] : List Int)).map fun (n : Int) => UInt8.ofNat n.toNat) ++ r11, 128)) (fun (r22, r22_2) => Le.rfl)) (Le.rfl))))

def log_Log_apply_2.e : ((Bool × Int) × (Int × Int) × List (List UInt8) × List (Int × List UInt8)) → Option (((Bool × Int) × (Int × Int) × List (List UInt8) × List (Int × List UInt8)) × Int) := fun ((o1b, o1c), (o2c, o2d), o3, o4) =>
  (log_headOf.e ([] : List Int)).bind fun r3 =>
    (log_Log_write.e (((o1b, o1c), (o2c, o2d), o3, o4), r3)).bind fun (((r4, r4_2), (r4_3, r4_4), r4_5, r4_6), r4_7) =>
      some (((((r4, r4_2), (r4_3, r4_4), r4_5, r4_6), r4_7)))

theorem log_Log_apply_2.le : ∀ a, Le (log_Log_apply_2.e a) (log_Log_apply_2 a) := fun ((o1b, o1c), (o2c, o2d), o3, o4) => by first | exact Le.bind (log_headOf.le ([] : List Int)) (fun r3 => Le.bind (log_Log_write.le (((o1b, o1c), (o2c, o2d), o3, o4), r3)) (fun (((r4, r4_2), (r4_3, r4_4), r4_5, r4_6), r4_7) => Le.rfl)) | (unfold log_Log_apply_2.e log_Log_apply_2; exact Le.bind (log_headOf.le ([] : List Int)) (fun r3 => Le.bind (log_Log_write.le (((o1b, o1c), (o2c, o2d), o3, o4), r3)) (fun (((r4, r4_2), (r4_3, r4_4), r4_5, r4_6), r4_7) => Le.rfl)))

def log_all.e : ((List (Int × List UInt8)) × (Bool × Int) × (Int × Int) × List (List UInt8) × List (Int × List UInt8)) → Option (((List (Int × List UInt8)) × (Bool × Int) × (Int × Int) × List (List UInt8) × List (Int × List UInt8)) × Int) := fun (o1, (o2b, o2c), (o3c, o3d), o4, o5) =>
  (log_Log_apply_1.e (((o2b, o2c), (o3c, o3d), o4, o5), o1)).bind fun (((r13, r13_2), (r13_3, r13_4), r13_5, r13_6), r13_7) =>
    if (r13_7 != 0) = true then
      some ((((o1, (r13, r13_2), (r13_3, r13_4), r13_5, r13_6), r13_7)))
    else
      (log_Log_apply_2.e ((r13, r13_2), (r13_3, r13_4), r13_5, r13_6)).bind fun (((r13a, r13a_2), (r13a_3, r13a_4), r13a_5, r13a_6), r13a_7) =>
        if (r13a_7 != 0) = true then
          some ((((o1, (r13a, r13a_2), (r13a_3, r13a_4), r13a_5, r13a_6), r13a_7)))
        else
          some ((((o1, (r13a, r13a_2), (r13a_3, r13a_4), r13a_5, r13a_6), 0)))

theorem log_all.le : ∀ a, Le (log_all.e a) (log_all a) := fun (o1, (o2b, o2c), (o3c, o3d), o4, o5) => by first | exact Le.bind (log_Log_apply_1.le (((o2b, o2c), (o3c, o3d), o4, o5), o1)) (fun (((r13, r13_2), (r13_3, r13_4), r13_5, r13_6), r13_7) => Le.ite (Le.rfl) (Le.bind (log_Log_apply_2.le ((r13, r13_2), (r13_3, r13_4), r13_5, r13_6)) (fun (((r13a, r13a_2), (r13a_3, r13a_4), r13a_5, r13a_6), r13a_7) => Le.ite (Le.rfl) (Le.rfl)))) | (unfold log_all.e log_all; exact Le.bind (log_Log_apply_1.le (((o2b, o2c), (o3c, o3d), o4, o5), o1)) (fun (((r13, r13_2), (r13_3, r13_4), r13_5, r13_6), r13_7) => Le.ite (Le.rfl) (Le.bind (log_Log_apply_2.le ((r13, r13_2), (r13_3, r13_4), r13_5, r13_6)) (fun (((r13a, r13a_2), (r13a_3, r13a_4), r13a_5, r13a_6), r13a_7) => Le.ite (Le.rfl) (Le.rfl)))))

def log_Log_apply.e : (((Bool × Int) × (Int × Int) × List (List UInt8) × List (Int × List UInt8)) × List (Int × List UInt8)) → Option (((Bool × Int) × (Int × Int) × List (List UInt8) × List (Int × List UInt8)) × Int) := fun (((l0b, l0c), (o1c, o1d), o2, o3), c1) =>
  (log_all.e (c1, (l0b, l0c), (o1c, o1d), o2, o3)).bind fun ((r8, (r8_2, r8_3), (r8_4, r8_5), r8_6, r8_7), r8_8) =>
    some (((((r8_2, r8_3), (r8_4, r8_5), r8_6, r8_7), r8_8)))

theorem log_Log_apply.le : ∀ a, Le (log_Log_apply.e a) (log_Log_apply a) := fun (((l0b, l0c), (o1c, o1d), o2, o3), c1) => by first | exact Le.bind (log_all.le (c1, (l0b, l0c), (o1c, o1d), o2, o3)) (fun ((r8, (r8_2, r8_3), (r8_4, r8_5), r8_6, r8_7), r8_8) => Le.rfl) | (unfold log_Log_apply.e log_Log_apply; exact Le.bind (log_all.le (c1, (l0b, l0c), (o1c, o1d), o2, o3)) (fun ((r8, (r8_2, r8_3), (r8_4, r8_5), r8_6, r8_7), r8_8) => Le.rfl))

def log_Open.e : ((Int × Int) × List (List UInt8) × List (Int × List UInt8)) → Option ((((Int × Int) × List (List UInt8) × List (Int × List UInt8)) × Int) ⊕ (((Int × Int) × List (List UInt8) × (List (Int × List UInt8)) × Bool × Int) × Int)) := fun ((s0c, s0d), o1, o2) =>
  (slab_Slab_Size.e (o1, o2, s0c, s0d)).bind fun r12 =>
    if decide (r12 < 64) = true then
      some (.inl ((((s0c, s0d), o1, o2), 1)))
    else
      (log_Log_read_2.e ((false, 0), (s0c, s0d), o1, o2)).bind fun (((r20, r20_2), (r20_3, r20_4), r20_5, r20_6), r20_7, r20_8) =>
        if (!r20_8) = true then
          some (.inl ((((r20_3, r20_4), r20_5, r20_6), 15)))
        else
          if decide ((r20_7.length : Int) > 0) = true then
            (log_Log_apply.e (((r20, r20_2), (r20_3, r20_4), r20_5, r20_6), r20_7)).bind fun (((r30, r30_2), (r30_3, r30_4), r30_5, r30_6), r30_7) =>
              if (r30_7 != 0) = true then
                some (.inl ((((r30_3, r30_4), r30_5, r30_6), r30_7)))
              else
                some (.inr (((((r30_3, r30_4), r30_5, r30_6, r30, r30_2), 0))))
          else
            some (.inr (((((r20_3, r20_4), r20_5, r20_6, r20, r20_2), 0))))

theorem log_Open.le : ∀ a, Le (log_Open.e a) (log_Open a) := fun ((s0c, s0d), o1, o2) => by first | exact Le.bind (slab_Slab_Size.le (o1, o2, s0c, s0d)) (fun r12 => Le.ite (Le.rfl) (Le.bind (log_Log_read_2.le ((false, 0), (s0c, s0d), o1, o2)) (fun (((r20, r20_2), (r20_3, r20_4), r20_5, r20_6), r20_7, r20_8) => Le.ite (Le.rfl) (Le.ite (Le.bind (log_Log_apply.le (((r20, r20_2), (r20_3, r20_4), r20_5, r20_6), r20_7)) (fun (((r30, r30_2), (r30_3, r30_4), r30_5, r30_6), r30_7) => Le.ite (Le.rfl) (Le.rfl))) (Le.rfl))))) | (unfold log_Open.e log_Open; exact Le.bind (slab_Slab_Size.le (o1, o2, s0c, s0d)) (fun r12 => Le.ite (Le.rfl) (Le.bind (log_Log_read_2.le ((false, 0), (s0c, s0d), o1, o2)) (fun (((r20, r20_2), (r20_3, r20_4), r20_5, r20_6), r20_7, r20_8) => Le.ite (Le.rfl) (Le.ite (Le.bind (log_Log_apply.le (((r20, r20_2), (r20_3, r20_4), r20_5, r20_6), r20_7)) (fun (((r30, r30_2), (r30_3, r30_4), r30_5, r30_6), r30_7) => Le.ite (Le.rfl) (Le.rfl))) (Le.rfl))))))

def deal_Begin.e : Unit → Option (Int) := fun _ =>
  some 1

theorem deal_Begin.le : ∀ a, Le (deal_Begin.e a) (deal_Begin a) := fun _ => by first | exact Le.rfl | (unfold deal_Begin.e deal_Begin; exact Le.rfl)

def deal_Begin_2.e : ((Bool × Int) × (Int × Int) × List (List UInt8) × List (Int × List UInt8)) → Option (((Bool × Int) × (Int × Int) × List (List UInt8) × (List (Int × List UInt8)) × List (Int × List UInt8)) × Int) := fun ((l0b, l0c), (o1c, o1d), o2, o3) =>
  some (((((l0b, l0c), (o1c, o1d), o2, o3, ([] : List (Int × List UInt8))), 0)))

theorem deal_Begin_2.le : ∀ a, Le (deal_Begin_2.e a) (deal_Begin_2 a) := fun ((l0b, l0c), (o1c, o1d), o2, o3) => by first | exact Le.rfl | (unfold deal_Begin_2.e deal_Begin_2; exact Le.rfl)

def wainwrightlaw12_begin.e : Int → Option (((Int × Int) × List (List UInt8) × List (Int × List UInt8)) ⊕ ((Int × Int) × List (List UInt8) × (List (Int × List UInt8)) × (Bool × Int) × List (Int × List UInt8))) := fun n0 =>
  (slab_New.e n0).bind fun ((r10, r10_2), r10_3, r10_4) =>
    (log_Open.e ((r10, r10_2), r10_3, r10_4)).bind fun d => match d with
    | .inl (((r13, r13_2), r13_3, r13_4), r13_5) =>
      if (r13_5 != 0) = true then
        some (.inl (((r13, r13_2), r13_3, r13_4)))
      else
        (deal_Begin.e ()).bind fun r21 =>
          if (r21 != 0) = true then
            some (.inl (((r13, r13_2), r13_3, r13_4)))
          else
            some (.inl (((r13, r13_2), r13_3, r13_4)))
    | .inr ((((r13b, r13_2b), r13_3b, r13_4b, r13_5b, r13_6b), r13_7b)) =>
      if (r13_7b != 0) = true then
        some (.inl (((r13b, r13_2b), r13_3b, r13_4b)))
      else
        (deal_Begin_2.e ((r13_5b, r13_6b), (r13b, r13_2b), r13_3b, r13_4b)).bind fun (((r21a, r21a_2), (r21a_3, r21a_4), r21a_5, r21a_6, r21a_7), r21a_8) =>
          if (r21a_8 != 0) = true then
            some (.inl (((r21a_3, r21a_4), r21a_5, r21a_6)))
          else
            some (.inr ((((r21a_3, r21a_4), r21a_5, r21a_6, (r21a, r21a_2), r21a_7))))

theorem wainwrightlaw12_begin.le : ∀ a, Le (wainwrightlaw12_begin.e a) (wainwrightlaw12_begin a) := fun n0 => by first | exact Le.bind (slab_New.le n0) (fun ((r10, r10_2), r10_3, r10_4) => Le.bind (log_Open.le ((r10, r10_2), r10_3, r10_4)) (fun d => match d with | .inl (((r13, r13_2), r13_3, r13_4), r13_5) => Le.ite (Le.rfl) (Le.bind (deal_Begin.le ()) (fun r21 => Le.ite (Le.rfl) (Le.rfl))) | .inr ((((r13b, r13_2b), r13_3b, r13_4b, r13_5b, r13_6b), r13_7b)) => Le.ite (Le.rfl) (Le.bind (deal_Begin_2.le ((r13_5b, r13_6b), (r13b, r13_2b), r13_3b, r13_4b)) (fun (((r21a, r21a_2), (r21a_3, r21a_4), r21a_5, r21a_6, r21a_7), r21a_8) => Le.ite (Le.rfl) (Le.rfl))))) | (unfold wainwrightlaw12_begin.e wainwrightlaw12_begin; exact Le.bind (slab_New.le n0) (fun ((r10, r10_2), r10_3, r10_4) => Le.bind (log_Open.le ((r10, r10_2), r10_3, r10_4)) (fun d => match d with | .inl (((r13, r13_2), r13_3, r13_4), r13_5) => Le.ite (Le.rfl) (Le.bind (deal_Begin.le ()) (fun r21 => Le.ite (Le.rfl) (Le.rfl))) | .inr ((((r13b, r13_2b), r13_3b, r13_4b, r13_5b, r13_6b), r13_7b)) => Le.ite (Le.rfl) (Le.bind (deal_Begin_2.le ((r13_5b, r13_6b), (r13b, r13_2b), r13_3b, r13_4b)) (fun (((r21a, r21a_2), (r21a_3, r21a_4), r21a_5, r21a_6, r21a_7), r21a_8) => Le.ite (Le.rfl) (Le.rfl))))))

def log_Log_Size.e : ((List (List UInt8) × (List (Int × List UInt8)) × Int × Int) × Bool × Int) → Option (Int) := fun l0 =>
  (slab_Slab_Size.e l0.1).bind fun r9 =>
    some r9

theorem log_Log_Size.le : ∀ a, Le (log_Log_Size.e a) (log_Log_Size a) := fun l0 => by first | exact Le.bind (slab_Slab_Size.le l0.1) (fun r9 => Le.rfl) | (unfold log_Log_Size.e log_Log_Size; exact Le.bind (slab_Slab_Size.le l0.1) (fun r9 => Le.rfl))

def deal_written_there.e : ((((List (List UInt8) × (List (Int × List UInt8)) × Int × Int) × Bool × Int) × List (Int × List UInt8)) × Int) → Option (Bool) := fun (w0, i1) =>
  if decide (i1 ≥ 0) = true then
    (log_Log_Size.e w0.1).bind fun r13 =>
      if decide (i1 < r13) = true then
        if decide (i1 < 1) = false then
          some ((decide (i1 > 41)))
        else
          some true
      else
        some false
  else
    some false

theorem deal_written_there.le : ∀ a, Le (deal_written_there.e a) (deal_written_there a) := fun (w0, i1) => by first | exact Le.ite (Le.bind (log_Log_Size.le w0.1) (fun r13 => Le.ite (Le.ite (Le.rfl) (Le.rfl)) (Le.rfl))) (Le.rfl) | (unfold deal_written_there.e deal_written_there; exact Le.ite (Le.bind (log_Log_Size.le w0.1) (fun r13 => Le.ite (Le.ite (Le.rfl) (Le.rfl)) (Le.rfl))) (Le.rfl))

def deal_Deal_Write.e : (((Bool × Int) × (List (Int × List UInt8)) × (Int × Int) × List (List UInt8) × List (Int × List UInt8)) × Int × List UInt8) → Option (((Bool × Int) × (List (Int × List UInt8)) × (Int × Int) × List (List UInt8) × List (Int × List UInt8)) × Int) := fun (((o1b, o1c), o2, (o3c, o3d), o4, o5), i1, data2) =>
  (deal_written_there.e ((((o4, o5, o3c, o3d), o1b, o1c), o2), i1)).bind fun r16 =>
    if (!r16) = true then
      some (((((o1b, o1c), o2, (o3c, o3d), o4, o5), 1)))
    else
      (mould_Pad.e (data2, 128)).bind fun (r21, r21_2) =>
        if (r21_2 != 0) = true then
          some (((((o1b, o1c), o2, (o3c, o3d), o4, o5), 1)))
        else
          some (((((o1b, o1c), mput (K := I) (V := .str) o2 i1 r21, (o3c, o3d), o4, o5), 0)))

theorem deal_Deal_Write.le : ∀ a, Le (deal_Deal_Write.e a) (deal_Deal_Write a) := fun (((o1b, o1c), o2, (o3c, o3d), o4, o5), i1, data2) => by first | exact Le.bind (deal_written_there.le ((((o4, o5, o3c, o3d), o1b, o1c), o2), i1)) (fun r16 => Le.ite (Le.rfl) (Le.bind (mould_Pad.le (data2, 128)) (fun (r21, r21_2) => Le.ite (Le.rfl) (Le.rfl)))) | (unfold deal_Deal_Write.e deal_Deal_Write; exact Le.bind (deal_written_there.le ((((o4, o5, o3c, o3d), o1b, o1c), o2), i1)) (fun r16 => Le.ite (Le.rfl) (Le.bind (mould_Pad.le (data2, 128)) (fun (r21, r21_2) => Le.ite (Le.rfl) (Le.rfl)))))

def log_Log_Read.e : (((List (List UInt8) × (List (Int × List UInt8)) × Int × Int) × Bool × Int) × Int) → Option (List UInt8) := fun (l0, i1) =>
  (slab_Slab_Read.e (l0.1, i1)).bind fun r12 =>
    some r12

theorem log_Log_Read.le : ∀ a, Le (log_Log_Read.e a) (log_Log_Read a) := fun (l0, i1) => by first | exact Le.bind (slab_Slab_Read.le (l0.1, i1)) (fun r12 => Le.rfl) | (unfold log_Log_Read.e log_Log_Read; exact Le.bind (slab_Slab_Read.le (l0.1, i1)) (fun r12 => Le.rfl))

def deal_written_get.e : ((((List (List UInt8) × (List (Int × List UInt8)) × Int × Int) × Bool × Int) × List (Int × List UInt8)) × Int) → Option (List UInt8) := fun (w0, i1) =>
  if (mget (K := I) (V := .str) w0.2 i1).isSome = true then
    some ((((mget (K := I) (V := .str) w0.2 i1).getD [])))
  else
    (log_Log_Read.e (w0.1, i1)).bind fun r23 =>
      some r23

theorem deal_written_get.le : ∀ a, Le (deal_written_get.e a) (deal_written_get a) := fun (w0, i1) => by first | exact Le.ite (Le.rfl) (Le.bind (log_Log_Read.le (w0.1, i1)) (fun r23 => Le.rfl)) | (unfold deal_written_get.e deal_written_get; exact Le.ite (Le.rfl) (Le.bind (log_Log_Read.le (w0.1, i1)) (fun r23 => Le.rfl)))

def deal_Deal_Read.e : ((((List (List UInt8) × (List (Int × List UInt8)) × Int × Int) × Bool × Int) × List (Int × List UInt8)) × Int) → Option (List UInt8 × Int) := fun (d0, i1) =>
  (deal_written_there.e (d0, i1)).bind fun r13 =>
    if (!r13) = true then
      some ((([], 1)))
    else
      (deal_written_get.e (d0, i1)).bind fun r20 =>
        some (((r20, 0)))

theorem deal_Deal_Read.le : ∀ a, Le (deal_Deal_Read.e a) (deal_Deal_Read a) := fun (d0, i1) => by first | exact Le.bind (deal_written_there.le (d0, i1)) (fun r13 => Le.ite (Le.rfl) (Le.bind (deal_written_get.le (d0, i1)) (fun r20 => Le.rfl))) | (unfold deal_Deal_Read.e deal_Deal_Read; exact Le.bind (deal_written_there.le (d0, i1)) (fun r13 => Le.ite (Le.rfl) (Le.bind (deal_written_get.le (d0, i1)) (fun r20 => Le.rfl))))

def wainwrightref01_Zeros.e : Int → Option (List UInt8) := fun n0 =>
  if 0 ≤ n0 ∧ n0 ≤ n0 ∧ n0 * (1 : Nat) ≤ 140737488355328 ∧ n0 ≤ 9223372036854775807 then
    some (((List.replicate n0.toNat (0 : Int)).map fun (n : Int) => UInt8.ofNat n.toNat))
  else none

theorem wainwrightref01_Zeros.le : ∀ a, Le (wainwrightref01_Zeros.e a) (wainwrightref01_Zeros a) := fun n0 => by first | exact Le.ite (Le.rfl) (Le.rfl) | (unfold wainwrightref01_Zeros.e wainwrightref01_Zeros; exact Le.ite (Le.rfl) (Le.rfl))

def wainwrightref02_Whole.e : List UInt8 → Option (List UInt8) := fun s0 =>
  if 0 ≤ (if 128 < (s0.length : Int) then 128 else (s0.length : Int)) ∧ (if 128 < (s0.length : Int) then 128 else (s0.length : Int)) ≤ (s0.length : Int) then
    (wainwrightref01_Zeros.e (IntKind.i64.wrap (128 - ((s0.take ((if 128 < (s0.length : Int) then 128 else (s0.length : Int))).toNat).length : Int)))).bind fun r12 =>
      if (s0.take ((if 128 < (s0.length : Int) then 128 else (s0.length : Int))).toNat).length + r12.length ≤ 9223372036854775807 then
        some (((s0.take ((if 128 < (s0.length : Int) then 128 else (s0.length : Int))).toNat) ++ r12))
      else none
  else none

theorem wainwrightref02_Whole.le : ∀ a, Le (wainwrightref02_Whole.e a) (wainwrightref02_Whole a) := fun s0 => by first | exact Le.ite (Le.bind (wainwrightref01_Zeros.le (IntKind.i64.wrap (128 - ((s0.take ((if 128 < (s0.length : Int) then 128 else (s0.length : Int))).toNat).length : Int)))) (fun r12 => Le.ite (Le.rfl) (Le.rfl))) (Le.rfl) | (unfold wainwrightref02_Whole.e wainwrightref02_Whole; exact Le.ite (Le.bind (wainwrightref01_Zeros.le (IntKind.i64.wrap (128 - ((s0.take ((if 128 < (s0.length : Int) then 128 else (s0.length : Int))).toNat).length : Int)))) (fun r12 => Le.ite (Le.rfl) (Le.rfl))) (Le.rfl))

def deal_written_changes.l1e : (((Bool × Int) × (List (Int × List UInt8)) × (Int × Int) × List (List UInt8) × (List (Int × List UInt8)) × List (Int × List UInt8)) × List Int × Int × Int) → Option ((((Bool × Int) × (List (Int × List UInt8)) × (Int × Int) × List (List UInt8) × (List (Int × List UInt8)) × List (Int × List UInt8)) × List Int × Int × Int) ⊕ ((Bool × Int) × (List (Int × List UInt8)) × (Int × Int) × List (List UInt8) × (List (Int × List UInt8)) × List (Int × List UInt8))) := fun (((o1b, o1c), o2, (o3c, o3d), o4, o5, c3), t12, t13, t14) =>
  if decide (t14 < t13) = true then
    if 0 ≤ t14 ∧ t14 < (t12.length : Int) then
      (log_Log_Read.e (((o4, o5, o3c, o3d), o1b, o1c), t12.getD t14.toNat 0)).bind fun r30 =>
        if (!((((mget (K := I) (V := .str) o2 (t12.getD t14.toNat 0)).getD [])) == r30)) = true then
          if roomOk (c3.length + (([(t12.getD t14.toNat 0, ((mget (K := I) (V := .str) o2 (t12.getD t14.toNat 0)).getD []))] : List (Int × List UInt8))).length) 24 then
            some (.inl ((((o1b, o1c), o2, (o3c, o3d), o4, o5, c3 ++ (([(t12.getD t14.toNat 0, ((mget (K := I) (V := .str) o2 (t12.getD t14.toNat 0)).getD []))] : List (Int × List UInt8)))), t12, t13, IntKind.i64.wrap (t14 + 1))))
          else none
        else
          some (.inl ((((o1b, o1c), o2, (o3c, o3d), o4, o5, c3), t12, t13, IntKind.i64.wrap (t14 + 1))))
    else none
  else
    some (.inr ((((o1b, o1c), o2, (o3c, o3d), o4, o5, c3))))

def deal_written_changes.e : ((Bool × Int) × (List (Int × List UInt8)) × (Int × Int) × List (List UInt8) × List (Int × List UInt8)) → Option (((Bool × Int) × (List (Int × List UInt8)) × (Int × Int) × List (List UInt8) × List (Int × List UInt8)) × List (Int × List UInt8)) := fun ((o1b, o1c), o2, (o3c, o3d), o4, o5) =>
  (maps_Keys_map_int_string_int_string.e o2).bind fun r11 =>
    (slices_Sorted r11).bind fun (r12, r12_2) =>
      (iter deal_written_changes.l1e fuel ((((o1b, o1c), r12, (o3c, o3d), o4, o5, []), r12_2, (r12_2.length : Int), 0))).bind fun ((o1b, o1c), o2, (o3c, o3d), o4, o5, c3) =>
        some (((((o1b, o1c), o2, (o3c, o3d), o4, o5), c3)))

theorem deal_written_changes.l1.le : ∀ s, Le (deal_written_changes.l1e s) (deal_written_changes.l1 s) := fun (((o1b, o1c), o2, (o3c, o3d), o4, o5, c3), t12, t13, t14) => by first | exact Le.ite (Le.ite (Le.bind (log_Log_Read.le (((o4, o5, o3c, o3d), o1b, o1c), t12.getD t14.toNat 0)) (fun r30 => Le.ite (Le.ite (Le.rfl) (Le.rfl)) (Le.rfl))) (Le.rfl)) (Le.rfl) | (unfold deal_written_changes.l1e deal_written_changes.l1; exact Le.ite (Le.ite (Le.bind (log_Log_Read.le (((o4, o5, o3c, o3d), o1b, o1c), t12.getD t14.toNat 0)) (fun r30 => Le.ite (Le.ite (Le.rfl) (Le.rfl)) (Le.rfl))) (Le.rfl)) (Le.rfl))
theorem deal_written_changes.le : ∀ a, Le (deal_written_changes.e a) (deal_written_changes a) := fun ((o1b, o1c), o2, (o3c, o3d), o4, o5) => by first | exact Le.bind (maps_Keys_map_int_string_int_string.le o2) (fun r11 => Le.bind Le.rfl (fun (r12, r12_2) => Le.bind (Le.loop deal_written_changes.l1.le) (fun ((o1b, o1c), o2, (o3c, o3d), o4, o5, c3) => Le.rfl))) | (unfold deal_written_changes.e deal_written_changes; exact Le.bind (maps_Keys_map_int_string_int_string.le o2) (fun r11 => Le.bind Le.rfl (fun (r12, r12_2) => Le.bind (Le.loop deal_written_changes.l1.le) (fun ((o1b, o1c), o2, (o3c, o3d), o4, o5, c3) => Le.rfl))))

def deal_Deal_Changed.l1e : (((Bool × Int) × (List (Int × List UInt8)) × (Int × Int) × List (List UInt8) × (List (Int × List UInt8)) × List Int) × (List (Int × List UInt8)) × Int × Int) → Option ((((Bool × Int) × (List (Int × List UInt8)) × (Int × Int) × List (List UInt8) × (List (Int × List UInt8)) × List Int) × (List (Int × List UInt8)) × Int × Int) ⊕ ((Bool × Int) × (List (Int × List UInt8)) × (Int × Int) × List (List UInt8) × (List (Int × List UInt8)) × List Int)) := fun (((o1b, o1c), o2, (o3c, o3d), o4, o5, l3), t11, t12, t13) =>
  if decide (t13 < t12) = true then
    if 0 ≤ t13 ∧ t13 < (t11.length : Int) then
      if roomOk (l3.length + (([(t11.getD t13.toNat (0, [])).1] : List Int)).length) 8 then
        some (.inl ((((o1b, o1c), o2, (o3c, o3d), o4, o5, l3 ++ (([(t11.getD t13.toNat (0, [])).1] : List Int))), t11, t12, IntKind.i64.wrap (t13 + 1))))
      else none
    else none
  else
    some (.inr ((((o1b, o1c), o2, (o3c, o3d), o4, o5, l3))))

def deal_Deal_Changed.e : ((Bool × Int) × (List (Int × List UInt8)) × (Int × Int) × List (List UInt8) × List (Int × List UInt8)) → Option (((Bool × Int) × (List (Int × List UInt8)) × (Int × Int) × List (List UInt8) × List (Int × List UInt8)) × List Int) := fun ((o1b, o1c), o2, (o3c, o3d), o4, o5) =>
  (deal_written_changes.e ((o1b, o1c), o2, (o3c, o3d), o4, o5)).bind fun (((r11, r11_2), r11_3, (r11_4, r11_5), r11_6, r11_7), r11_8) =>
    (iter deal_Deal_Changed.l1e fuel ((((r11, r11_2), r11_3, (r11_4, r11_5), r11_6, r11_7, []), r11_8, (r11_8.length : Int), 0))).bind fun ((o1b, o1c), o2, (o3c, o3d), o4, o5, l3) =>
      some (((((o1b, o1c), o2, (o3c, o3d), o4, o5), l3)))

theorem deal_Deal_Changed.l1.le : ∀ s, Le (deal_Deal_Changed.l1e s) (deal_Deal_Changed.l1 s) := fun (((o1b, o1c), o2, (o3c, o3d), o4, o5, l3), t11, t12, t13) => by first | exact Le.ite (Le.ite (Le.ite (Le.rfl) (Le.rfl)) (Le.rfl)) (Le.rfl) | (unfold deal_Deal_Changed.l1e deal_Deal_Changed.l1; exact Le.ite (Le.ite (Le.ite (Le.rfl) (Le.rfl)) (Le.rfl)) (Le.rfl))
theorem deal_Deal_Changed.le : ∀ a, Le (deal_Deal_Changed.e a) (deal_Deal_Changed a) := fun ((o1b, o1c), o2, (o3c, o3d), o4, o5) => by first | exact Le.bind (deal_written_changes.le ((o1b, o1c), o2, (o3c, o3d), o4, o5)) (fun (((r11, r11_2), r11_3, (r11_4, r11_5), r11_6, r11_7), r11_8) => Le.bind (Le.loop deal_Deal_Changed.l1.le) (fun ((o1b, o1c), o2, (o3c, o3d), o4, o5, l3) => Le.rfl)) | (unfold deal_Deal_Changed.e deal_Deal_Changed; exact Le.bind (deal_written_changes.le ((o1b, o1c), o2, (o3c, o3d), o4, o5)) (fun (((r11, r11_2), r11_3, (r11_4, r11_5), r11_6, r11_7), r11_8) => Le.bind (Le.loop deal_Deal_Changed.l1.le) (fun ((o1b, o1c), o2, (o3c, o3d), o4, o5, l3) => Le.rfl)))

def log_Log_may.e : (((List (List UInt8) × (List (Int × List UInt8)) × Int × Int) × Bool × Int) × List (Int × List UInt8)) → Option (Int) := fun (l0, c1) =>
  if l0.2.1 = true then
    some 16
  else
    if decide ((c1.length : Int) > 40) = true then
      some 13
    else
      (log_Log_right.e (l0, c1)).bind fun r20 =>
        if (!r20) = true then
          some 1
        else
          some 0

theorem log_Log_may.le : ∀ a, Le (log_Log_may.e a) (log_Log_may a) := fun (l0, c1) => by first | exact Le.ite (Le.rfl) (Le.ite (Le.rfl) (Le.bind (log_Log_right.le (l0, c1)) (fun r20 => Le.ite (Le.rfl) (Le.rfl)))) | (unfold log_Log_may.e log_Log_may; exact Le.ite (Le.rfl) (Le.ite (Le.rfl) (Le.bind (log_Log_right.le (l0, c1)) (fun r20 => Le.ite (Le.rfl) (Le.rfl)))))

def log_Log_Commit_1.e : (((Bool × Int) × (Int × Int) × List (List UInt8) × List (Int × List UInt8)) × List (Int × List UInt8)) → Option (((Bool × Int) × (Int × Int) × List (List UInt8) × List (Int × List UInt8)) × Int) := fun (((o1b, o1c), (o2c, o2d), o3, o4), t1) =>
  (log_Log_write.e (((o1b, o1c), (o2c, o2d), o3, o4), t1)).bind fun (((r5, r5_2), (r5_3, r5_4), r5_5, r5_6), r5_7) =>
    some (((((r5, r5_2), (r5_3, r5_4), r5_5, r5_6), r5_7)))

theorem log_Log_Commit_1.le : ∀ a, Le (log_Log_Commit_1.e a) (log_Log_Commit_1 a) := fun (((o1b, o1c), (o2c, o2d), o3, o4), t1) => by first | exact Le.bind (log_Log_write.le (((o1b, o1c), (o2c, o2d), o3, o4), t1)) (fun (((r5, r5_2), (r5_3, r5_4), r5_5, r5_6), r5_7) => Le.rfl) | (unfold log_Log_Commit_1.e log_Log_Commit_1; exact Le.bind (log_Log_write.le (((o1b, o1c), (o2c, o2d), o3, o4), t1)) (fun (((r5, r5_2), (r5_3, r5_4), r5_5, r5_6), r5_7) => Le.rfl))

def log_numbers.l1e : (List Int × (List (Int × List UInt8)) × Int × Int) → Option ((List Int × (List (Int × List UInt8)) × Int × Int) ⊕ (List Int)) := fun (l3, t6, t7, t8) =>
  if decide (t8 < t7) = true then
    if 0 ≤ t8 ∧ t8 < (t6.length : Int) then
      if roomOk (l3.length + (([(t6.getD t8.toNat (0, [])).1] : List Int)).length) 8 then
        some (.inl ((l3 ++ (([(t6.getD t8.toNat (0, [])).1] : List Int)), t6, t7, IntKind.i64.wrap (t8 + 1))))
      else none
    else none
  else
    some (.inr l3)

def log_numbers.e : (List (Int × List UInt8)) → Option (List Int) := fun c0 =>
  (iter log_numbers.l1e fuel (([], c0, (c0.length : Int), 0))).bind fun l3 =>
    some l3

theorem log_numbers.l1.le : ∀ s, Le (log_numbers.l1e s) (log_numbers.l1 s) := fun (l3, t6, t7, t8) => by first | exact Le.ite (Le.ite (Le.ite (Le.rfl) (Le.rfl)) (Le.rfl)) (Le.rfl) | (unfold log_numbers.l1e log_numbers.l1; exact Le.ite (Le.ite (Le.ite (Le.rfl) (Le.rfl)) (Le.rfl)) (Le.rfl))
theorem log_numbers.le : ∀ a, Le (log_numbers.e a) (log_numbers a) := fun c0 => by first | exact Le.bind (Le.loop log_numbers.l1.le) (fun l3 => Le.rfl) | (unfold log_numbers.e log_numbers; exact Le.bind (Le.loop log_numbers.l1.le) (fun l3 => Le.rfl))

def log_Log_Commit_2.e : (((Bool × Int) × (Int × Int) × List (List UInt8) × List (Int × List UInt8)) × List (Int × List UInt8)) → Option (((Bool × Int) × (Int × Int) × List (List UInt8) × List (Int × List UInt8)) × Int) := fun (((o1b, o1c), (o2c, o2d), o3, o4), t1) =>
  (log_numbers.e t1).bind fun r5 =>
    (log_headOf.e r5).bind fun r6 =>
      (log_Log_write.e (((o1b, o1c), (o2c, o2d), o3, o4), r6)).bind fun (((r7, r7_2), (r7_3, r7_4), r7_5, r7_6), r7_7) =>
        some (((((r7, r7_2), (r7_3, r7_4), r7_5, r7_6), r7_7)))

theorem log_Log_Commit_2.le : ∀ a, Le (log_Log_Commit_2.e a) (log_Log_Commit_2 a) := fun (((o1b, o1c), (o2c, o2d), o3, o4), t1) => by first | exact Le.bind (log_numbers.le t1) (fun r5 => Le.bind (log_headOf.le r5) (fun r6 => Le.bind (log_Log_write.le (((o1b, o1c), (o2c, o2d), o3, o4), r6)) (fun (((r7, r7_2), (r7_3, r7_4), r7_5, r7_6), r7_7) => Le.rfl))) | (unfold log_Log_Commit_2.e log_Log_Commit_2; exact Le.bind (log_numbers.le t1) (fun r5 => Le.bind (log_headOf.le r5) (fun r6 => Le.bind (log_Log_write.le (((o1b, o1c), (o2c, o2d), o3, o4), r6)) (fun (((r7, r7_2), (r7_3, r7_4), r7_5, r7_6), r7_7) => Le.rfl))))

def log_Log_Commit_3.e : (((Bool × Int) × (Int × Int) × List (List UInt8) × List (Int × List UInt8)) × List (Int × List UInt8)) → Option (((Bool × Int) × (Int × Int) × List (List UInt8) × List (Int × List UInt8)) × Int) := fun (((o1b, o1c), (o2c, o2d), o3, o4), t1) =>
  (log_Log_apply.e (((o1b, o1c), (o2c, o2d), o3, o4), t1)).bind fun (((r5, r5_2), (r5_3, r5_4), r5_5, r5_6), r5_7) =>
    some (((((r5, r5_2), (r5_3, r5_4), r5_5, r5_6), r5_7)))

theorem log_Log_Commit_3.le : ∀ a, Le (log_Log_Commit_3.e a) (log_Log_Commit_3 a) := fun (((o1b, o1c), (o2c, o2d), o3, o4), t1) => by first | exact Le.bind (log_Log_apply.le (((o1b, o1c), (o2c, o2d), o3, o4), t1)) (fun (((r5, r5_2), (r5_3, r5_4), r5_5, r5_6), r5_7) => Le.rfl) | (unfold log_Log_Commit_3.e log_Log_Commit_3; exact Le.bind (log_Log_apply.le (((o1b, o1c), (o2c, o2d), o3, o4), t1)) (fun (((r5, r5_2), (r5_3, r5_4), r5_5, r5_6), r5_7) => Le.rfl))

def log_all_1.e : ((List (Int × List UInt8)) × (Bool × Int) × (List (Int × List UInt8)) × (Int × Int) × List (List UInt8) × List (Int × List UInt8)) → Option (((List (Int × List UInt8)) × (Bool × Int) × (List (Int × List UInt8)) × (Int × Int) × List (List UInt8) × List (Int × List UInt8)) × Int) := fun (o2, (o3b, o3c), o4, (o5c, o5d), o6, o7) =>
  (log_Log_Commit_1.e (((o3b, o3c), (o5c, o5d), o6, o7), o4)).bind fun (((r13, r13_2), (r13_3, r13_4), r13_5, r13_6), r13_7) =>
    if (r13_7 != 0) = true then
      some ((((o2, (r13, r13_2), o4, (r13_3, r13_4), r13_5, r13_6), r13_7)))
    else
      (log_Log_Commit_2.e (((r13, r13_2), (r13_3, r13_4), r13_5, r13_6), o2)).bind fun (((r13a, r13a_2), (r13a_3, r13a_4), r13a_5, r13a_6), r13a_7) =>
        if (r13a_7 != 0) = true then
          some ((((o2, (r13a, r13a_2), o4, (r13a_3, r13a_4), r13a_5, r13a_6), r13a_7)))
        else
          (log_Log_Commit_3.e (((r13a, r13a_2), (r13a_3, r13a_4), r13a_5, r13a_6), o2)).bind fun (((r13b, r13b_2), (r13b_3, r13b_4), r13b_5, r13b_6), r13b_7) =>
            if (r13b_7 != 0) = true then
              some ((((o2, (r13b, r13b_2), o4, (r13b_3, r13b_4), r13b_5, r13b_6), r13b_7)))
            else
              some ((((o2, (r13b, r13b_2), o4, (r13b_3, r13b_4), r13b_5, r13b_6), 0)))

theorem log_all_1.le : ∀ a, Le (log_all_1.e a) (log_all_1 a) := fun (o2, (o3b, o3c), o4, (o5c, o5d), o6, o7) => by first | exact Le.bind (log_Log_Commit_1.le (((o3b, o3c), (o5c, o5d), o6, o7), o4)) (fun (((r13, r13_2), (r13_3, r13_4), r13_5, r13_6), r13_7) => Le.ite (Le.rfl) (Le.bind (log_Log_Commit_2.le (((r13, r13_2), (r13_3, r13_4), r13_5, r13_6), o2)) (fun (((r13a, r13a_2), (r13a_3, r13a_4), r13a_5, r13a_6), r13a_7) => Le.ite (Le.rfl) (Le.bind (log_Log_Commit_3.le (((r13a, r13a_2), (r13a_3, r13a_4), r13a_5, r13a_6), o2)) (fun (((r13b, r13b_2), (r13b_3, r13b_4), r13b_5, r13b_6), r13b_7) => Le.ite (Le.rfl) (Le.rfl)))))) | (unfold log_all_1.e log_all_1; exact Le.bind (log_Log_Commit_1.le (((o3b, o3c), (o5c, o5d), o6, o7), o4)) (fun (((r13, r13_2), (r13_3, r13_4), r13_5, r13_6), r13_7) => Le.ite (Le.rfl) (Le.bind (log_Log_Commit_2.le (((r13, r13_2), (r13_3, r13_4), r13_5, r13_6), o2)) (fun (((r13a, r13a_2), (r13a_3, r13a_4), r13a_5, r13a_6), r13a_7) => Le.ite (Le.rfl) (Le.bind (log_Log_Commit_3.le (((r13a, r13a_2), (r13a_3, r13a_4), r13a_5, r13a_6), o2)) (fun (((r13b, r13b_2), (r13b_3, r13b_4), r13b_5, r13b_6), r13b_7) => Le.ite (Le.rfl) (Le.rfl)))))))

def log_Log_Commit.l1e : (((Bool × Int) × (Int × Int) × List (List UInt8) × (List (Int × List UInt8)) × (List (Int × List UInt8)) × List (Int × List UInt8)) × (List (Int × List UInt8)) × Int × Int) → Option ((((Bool × Int) × (Int × Int) × List (List UInt8) × (List (Int × List UInt8)) × (List (Int × List UInt8)) × List (Int × List UInt8)) × (List (Int × List UInt8)) × Int × Int) ⊕ ((Bool × Int) × (Int × Int) × List (List UInt8) × (List (Int × List UInt8)) × (List (Int × List UInt8)) × List (Int × List UInt8))) := fun (((o0b, o0c), (o1c, o1d), o2, o3, c3, o7), t21, t22, t23) =>
  if decide (t23 < t22) = true then
    if 0 ≤ t23 ∧ t23 < (t21.length : Int) then
      if roomOk (o7.length + (([(IntKind.i64.wrap (2 + t23), (t21.getD t23.toNat (0, [])).2)] : List (Int × List UInt8))).length) 24 then
        some (.inl ((((o0b, o0c), (o1c, o1d), o2, o3, c3, o7 ++ (([(IntKind.i64.wrap (2 + t23), (t21.getD t23.toNat (0, [])).2)] : List (Int × List UInt8)))), t21, t22, IntKind.i64.wrap (t23 + 1))))
      else none
    else none
  else
    some (.inr ((((o0b, o0c), (o1c, o1d), o2, o3, c3, o7))))

def log_Log_Commit.e : (((Bool × Int) × (Int × Int) × List (List UInt8) × List (Int × List UInt8)) × List (Int × List UInt8)) → Option (((Bool × Int) × (Int × Int) × List (List UInt8) × List (Int × List UInt8)) × Int) := fun (((l0b, l0c), (o1c, o1d), o2, o3), c1) =>
  (log_Log_may.e (((o2, o3, o1c, o1d), l0b, l0c), c1)).bind fun r12 =>
    if (r12 != 0) = false then
      if ((c1.length : Int) == 0) = true then
        some (((((l0b, l0c), (o1c, o1d), o2, o3), r12)))
      else
        (iter log_Log_Commit.l1e fuel ((((l0b, l0c), (o1c, o1d), o2, o3, c1, []), c1, (c1.length : Int), 0))).bind fun ((o0b, o0c), (o1c, o1d), o2, o3, c3, o7) =>
          (log_all_1.e (c3, (o0b, o0c), o7, (o1c, o1d), o2, o3)).bind fun ((r41, (r41_2, r41_3), r41_4, (r41_5, r41_6), r41_7, r41_8), r41_9) =>
            if (r41_9 != 0) = true then
              some (((((true, r41_3), (r41_5, r41_6), r41_7, r41_8), r41_9)))
            else
              some (((((r41_2, IntKind.i64.wrap (r41_3 + 1)), (r41_5, r41_6), r41_7, r41_8), 0)))
    else
      some (((((l0b, l0c), (o1c, o1d), o2, o3), r12)))

theorem log_Log_Commit.l1.le : ∀ s, Le (log_Log_Commit.l1e s) (log_Log_Commit.l1 s) := fun (((o0b, o0c), (o1c, o1d), o2, o3, c3, o7), t21, t22, t23) => by first | exact Le.ite (Le.ite (Le.ite (Le.rfl) (Le.rfl)) (Le.rfl)) (Le.rfl) | (unfold log_Log_Commit.l1e log_Log_Commit.l1; exact Le.ite (Le.ite (Le.ite (Le.rfl) (Le.rfl)) (Le.rfl)) (Le.rfl))
theorem log_Log_Commit.le : ∀ a, Le (log_Log_Commit.e a) (log_Log_Commit a) := fun (((l0b, l0c), (o1c, o1d), o2, o3), c1) => by first | exact Le.bind (log_Log_may.le (((o2, o3, o1c, o1d), l0b, l0c), c1)) (fun r12 => Le.ite (Le.ite (Le.rfl) (Le.bind (Le.loop log_Log_Commit.l1.le) (fun ((o0b, o0c), (o1c, o1d), o2, o3, c3, o7) => Le.bind (log_all_1.le (c3, (o0b, o0c), o7, (o1c, o1d), o2, o3)) (fun ((r41, (r41_2, r41_3), r41_4, (r41_5, r41_6), r41_7, r41_8), r41_9) => Le.ite (Le.rfl) (Le.rfl))))) (Le.rfl)) | (unfold log_Log_Commit.e log_Log_Commit; exact Le.bind (log_Log_may.le (((o2, o3, o1c, o1d), l0b, l0c), c1)) (fun r12 => Le.ite (Le.ite (Le.rfl) (Le.bind (Le.loop log_Log_Commit.l1.le) (fun ((o0b, o0c), (o1c, o1d), o2, o3, c3, o7) => Le.bind (log_all_1.le (c3, (o0b, o0c), o7, (o1c, o1d), o2, o3)) (fun ((r41, (r41_2, r41_3), r41_4, (r41_5, r41_6), r41_7, r41_8), r41_9) => Le.ite (Le.rfl) (Le.rfl))))) (Le.rfl)))

def deal_Deal_Undo.e : ((Bool × Int) × (List (Int × List UInt8)) × (Int × Int) × List (List UInt8) × List (Int × List UInt8)) → Option ((Bool × Int) × (List (Int × List UInt8)) × (Int × Int) × List (List UInt8) × List (Int × List UInt8)) := fun ((o1b, o1c), o2, (o3c, o3d), o4, o5) =>
  some ((((o1b, o1c), ([] : List (Int × List UInt8)), (o3c, o3d), o4, o5)))

theorem deal_Deal_Undo.le : ∀ a, Le (deal_Deal_Undo.e a) (deal_Deal_Undo a) := fun ((o1b, o1c), o2, (o3c, o3d), o4, o5) => by first | exact Le.rfl | (unfold deal_Deal_Undo.e deal_Deal_Undo; exact Le.rfl)

def deal_Deal_Commit.e : ((Bool × Int) × (List (Int × List UInt8)) × (Int × Int) × List (List UInt8) × List (Int × List UInt8)) → Option (((Bool × Int) × (List (Int × List UInt8)) × (Int × Int) × List (List UInt8) × List (Int × List UInt8)) × Int) := fun ((o1b, o1c), o2, (o3c, o3d), o4, o5) =>
  (deal_written_changes.e ((o1b, o1c), o2, (o3c, o3d), o4, o5)).bind fun (((r14, r14_2), r14_3, (r14_4, r14_5), r14_6, r14_7), r14_8) =>
    (log_Log_Commit.e (((r14, r14_2), (r14_4, r14_5), r14_6, r14_7), r14_8)).bind fun (((r15, r15_2), (r15_3, r15_4), r15_5, r15_6), r15_7) =>
      if (r15_7 != 13) = true then
        (deal_Deal_Undo.e ((r15, r15_2), r14_3, (r15_3, r15_4), r15_5, r15_6)).bind fun ((r19, r19_2), r19_3, (r19_4, r19_5), r19_6, r19_7) =>
          some (((((r19, r19_2), r19_3, (r19_4, r19_5), r19_6, r19_7), r15_7)))
      else
        some (((((r15, r15_2), r14_3, (r15_3, r15_4), r15_5, r15_6), r15_7)))

theorem deal_Deal_Commit.le : ∀ a, Le (deal_Deal_Commit.e a) (deal_Deal_Commit a) := fun ((o1b, o1c), o2, (o3c, o3d), o4, o5) => by first | exact Le.bind (deal_written_changes.le ((o1b, o1c), o2, (o3c, o3d), o4, o5)) (fun (((r14, r14_2), r14_3, (r14_4, r14_5), r14_6, r14_7), r14_8) => Le.bind (log_Log_Commit.le (((r14, r14_2), (r14_4, r14_5), r14_6, r14_7), r14_8)) (fun (((r15, r15_2), (r15_3, r15_4), r15_5, r15_6), r15_7) => Le.ite (Le.bind (deal_Deal_Undo.le ((r15, r15_2), r14_3, (r15_3, r15_4), r15_5, r15_6)) (fun ((r19, r19_2), r19_3, (r19_4, r19_5), r19_6, r19_7) => Le.rfl)) (Le.rfl))) | (unfold deal_Deal_Commit.e deal_Deal_Commit; exact Le.bind (deal_written_changes.le ((o1b, o1c), o2, (o3c, o3d), o4, o5)) (fun (((r14, r14_2), r14_3, (r14_4, r14_5), r14_6, r14_7), r14_8) => Le.bind (log_Log_Commit.le (((r14, r14_2), (r14_4, r14_5), r14_6, r14_7), r14_8)) (fun (((r15, r15_2), (r15_3, r15_4), r15_5, r15_6), r15_7) => Le.ite (Le.bind (deal_Deal_Undo.le ((r15, r15_2), r14_3, (r15_3, r15_4), r15_5, r15_6)) (fun ((r19, r19_2), r19_3, (r19_4, r19_5), r19_6, r19_7) => Le.rfl)) (Le.rfl))))

def wainwrightlaw12_lives.e : Unit → Option (Bool) := fun _ =>
  (wainwrightlaw12_begin.e 64).bind fun d => match d with
  | .inl ((r6, r6_2), r6_3, r6_4) =>
    some false
  | .inr (((r6b, r6_2b), r6_3b, r6_4b, (r6_5b, r6_6b), r6_7b)) =>
    (deal_Deal_Write.e (((r6_5b, r6_6b), r6_7b, (r6b, r6_2b), r6_3b, r6_4b), 60, ([97] : List UInt8))).bind fun (((r13, r13_2), r13_3, (r13_4, r13_5), r13_6, r13_7), r13_8) =>
      if (r13_8 != 0) = true then
        some false
      else
        (deal_Deal_Read.e ((((r13_6, r13_7, r13_4, r13_5), r13, r13_2), r13_3), 60)).bind fun (r18, r18_2) =>
          if (r18_2 == 0) = true then
            (wainwrightref02_Whole.e ([97] : List UInt8)).bind fun r25 =>
              if (r18 == r25) = true then
                (deal_Deal_Changed.e ((r13, r13_2), r13_3, (r13_4, r13_5), r13_6, r13_7)).bind fun (((r30, r30_2), r30_3, (r30_4, r30_5), r30_6, r30_7), r30_8) =>
                  if ((r30_8.length : Int) == 1) = true then
                    (deal_Deal_Commit.e ((r30, r30_2), r30_3, (r30_4, r30_5), r30_6, r30_7)).bind fun (((r36, r36_2), r36_3, (r36_4, r36_5), r36_6, r36_7), r36_8) =>
                      if (r36_8 == 0) = true then
                        (slab_Slab_Read.e ((r36_6, r36_7, r36_4, r36_5), 60)).bind fun r41 =>
                          if (r41 == r18) = true then
                            (deal_Deal_Changed.e ((r36, r36_2), r36_3, (r36_4, r36_5), r36_6, r36_7)).bind fun (((r47, r47_2), r47_3, (r47_4, r47_5), r47_6, r47_7), r47_8) =>
                              some ((((r47_8.length : Int) == 0)))
                          else
                            some false
                      else
                        some false
                  else
                    some false
              else
                some false
          else
            some false

theorem wainwrightlaw12_lives.le : ∀ a, Le (wainwrightlaw12_lives.e a) (wainwrightlaw12_lives a) := fun _ => by first | exact Le.bind (wainwrightlaw12_begin.le 64) (fun d => match d with | .inl ((r6, r6_2), r6_3, r6_4) => Le.rfl | .inr (((r6b, r6_2b), r6_3b, r6_4b, (r6_5b, r6_6b), r6_7b)) => Le.bind (deal_Deal_Write.le (((r6_5b, r6_6b), r6_7b, (r6b, r6_2b), r6_3b, r6_4b), 60, ([97] : List UInt8))) (fun (((r13, r13_2), r13_3, (r13_4, r13_5), r13_6, r13_7), r13_8) => Le.ite (Le.rfl) (Le.bind (deal_Deal_Read.le ((((r13_6, r13_7, r13_4, r13_5), r13, r13_2), r13_3), 60)) (fun (r18, r18_2) => Le.ite (Le.bind (wainwrightref02_Whole.le ([97] : List UInt8)) (fun r25 => Le.ite (Le.bind (deal_Deal_Changed.le ((r13, r13_2), r13_3, (r13_4, r13_5), r13_6, r13_7)) (fun (((r30, r30_2), r30_3, (r30_4, r30_5), r30_6, r30_7), r30_8) => Le.ite (Le.bind (deal_Deal_Commit.le ((r30, r30_2), r30_3, (r30_4, r30_5), r30_6, r30_7)) (fun (((r36, r36_2), r36_3, (r36_4, r36_5), r36_6, r36_7), r36_8) => Le.ite (Le.bind (slab_Slab_Read.le ((r36_6, r36_7, r36_4, r36_5), 60)) (fun r41 => Le.ite (Le.bind (deal_Deal_Changed.le ((r36, r36_2), r36_3, (r36_4, r36_5), r36_6, r36_7)) (fun (((r47, r47_2), r47_3, (r47_4, r47_5), r47_6, r47_7), r47_8) => Le.rfl)) (Le.rfl))) (Le.rfl))) (Le.rfl))) (Le.rfl))) (Le.rfl))))) | (unfold wainwrightlaw12_lives.e wainwrightlaw12_lives; exact Le.bind (wainwrightlaw12_begin.le 64) (fun d => match d with | .inl ((r6, r6_2), r6_3, r6_4) => Le.rfl | .inr (((r6b, r6_2b), r6_3b, r6_4b, (r6_5b, r6_6b), r6_7b)) => Le.bind (deal_Deal_Write.le (((r6_5b, r6_6b), r6_7b, (r6b, r6_2b), r6_3b, r6_4b), 60, ([97] : List UInt8))) (fun (((r13, r13_2), r13_3, (r13_4, r13_5), r13_6, r13_7), r13_8) => Le.ite (Le.rfl) (Le.bind (deal_Deal_Read.le ((((r13_6, r13_7, r13_4, r13_5), r13, r13_2), r13_3), 60)) (fun (r18, r18_2) => Le.ite (Le.bind (wainwrightref02_Whole.le ([97] : List UInt8)) (fun r25 => Le.ite (Le.bind (deal_Deal_Changed.le ((r13, r13_2), r13_3, (r13_4, r13_5), r13_6, r13_7)) (fun (((r30, r30_2), r30_3, (r30_4, r30_5), r30_6, r30_7), r30_8) => Le.ite (Le.bind (deal_Deal_Commit.le ((r30, r30_2), r30_3, (r30_4, r30_5), r30_6, r30_7)) (fun (((r36, r36_2), r36_3, (r36_4, r36_5), r36_6, r36_7), r36_8) => Le.ite (Le.bind (slab_Slab_Read.le ((r36_6, r36_7, r36_4, r36_5), 60)) (fun r41 => Le.ite (Le.bind (deal_Deal_Changed.le ((r36, r36_2), r36_3, (r36_4, r36_5), r36_6, r36_7)) (fun (((r47, r47_2), r47_3, (r47_4, r47_5), r47_6, r47_7), r47_8) => Le.rfl)) (Le.rfl))) (Le.rfl))) (Le.rfl))) (Le.rfl))) (Le.rfl))))))

end Go.Proofs.YtiodpeekbeahlaaGreatDoor.Abs
