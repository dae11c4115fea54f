/- The same functions, each loop with so many rounds at most: printed by gen2.py (own work). -/
import Derived.Test.YtejeollidbbknaaFns
import Derived.Test.YtejeollidbbknaaAbsEval
namespace Go.Proofs.Ytejeollidbbknaa.Abs
open Go Go.Proofs
set_option maxRecDepth 100000
set_option linter.unusedVariables false

def mould_fits.e : (List UInt8 × Int) → Option (Int) := fun (s0, n1) =>
  ((
    if decide (n1 < 0) = false then
      some (((s0, n1, decide (n1 > 1000))))
    else
      some (((s0, n1, true)))) : Option (List UInt8 × Int × Bool)).bind fun (s0, n1, t5) =>
    if t5 = true then
      some 1
    else
      if decide ((s0.length : Int) > n1) = true then
        some 3
      else
        some 0

theorem mould_fits.le : ∀ a, Le (mould_fits.e a) (mould_fits a) := fun (s0, n1) => by first | exact Le.bind (Le.ite (Le.rfl) (Le.rfl)) (fun (s0, n1, t5) => Le.ite (Le.rfl) (Le.ite (Le.rfl) (Le.rfl))) | (unfold mould_fits.e mould_fits; exact Le.bind (Le.ite (Le.rfl) (Le.rfl)) (fun (s0, n1, t5) => Le.ite (Le.rfl) (Le.ite (Le.rfl) (Le.rfl))))

def mould_Pad.e : (List UInt8 × Int) → Option (List UInt8 × Int) := fun (s0, n1) =>
  (mould_fits.e (s0, n1)).bind fun r9 =>
    if (r9 != 0) = true then
      some ((([], r9)))
    else
      (strings_Repeat (([0] : List UInt8), IntKind.i64.wrap (n1 - (s0.length : Int)))).bind fun r18 =>
        if s0.length + r18.length ≤ 9223372036854775807 then
          some (((s0 ++ r18, 0)))
        else none

theorem mould_Pad.le : ∀ a, Le (mould_Pad.e a) (mould_Pad a) := fun (s0, n1) => by first | exact Le.bind (mould_fits.le (s0, n1)) (fun r9 => Le.ite (Le.rfl) (Le.bind Le.rfl (fun r18 => Le.ite (Le.rfl) (Le.rfl)))) | (unfold mould_Pad.e mould_Pad; exact Le.bind (mould_fits.le (s0, n1)) (fun r9 => Le.ite (Le.rfl) (Le.bind Le.rfl (fun r18 => Le.ite (Le.rfl) (Le.rfl)))))

def slab_whole.e : List UInt8 → Option (List UInt8) := fun s0 =>
  if 0 ≤ (if 128 < (s0.length : Int) then 128 else (s0.length : Int)) ∧ (if 128 < (s0.length : Int) then 128 else (s0.length : Int)) ≤ (s0.length : Int) then
    (mould_Pad.e (s0.take ((if 128 < (s0.length : Int) then 128 else (s0.length : Int))).toNat, 128)).bind fun (r11, r11_2) =>
      some r11
  else none

theorem slab_whole.le : ∀ a, Le (slab_whole.e a) (slab_whole a) := fun s0 => by first | exact Le.ite (Le.bind (mould_Pad.le (s0.take ((if 128 < (s0.length : Int) then 128 else (s0.length : Int))).toNat, 128)) (fun (r11, r11_2) => Le.rfl)) (Le.rfl) | (unfold slab_whole.e slab_whole; exact Le.ite (Le.bind (mould_Pad.le (s0.take ((if 128 < (s0.length : Int) then 128 else (s0.length : Int))).toNat, 128)) (fun (r11, r11_2) => Le.rfl)) (Le.rfl))

def slab_Load.l1e : (((Int × Int) × List (List UInt8) × List (Int × List UInt8)) × List (List UInt8) × Int × Int) → Option ((((Int × Int) × List (List UInt8) × List (Int × List UInt8)) × List (List UInt8) × Int × Int) ⊕ ((Int × Int) × List (List UInt8) × List (Int × List UInt8))) := fun (((s3c, s3d), o1, o2), t13, t14, t15) =>
  if decide (t15 < t14) = true then
    if 0 ≤ t15 ∧ t15 < (t13.length : Int) then
      (slab_whole.e (t13.getD t15.toNat [])).bind fun r25 =>
        if roomOk (o1.length + (([r25] : List (List UInt8))).length) 16 then
          some (.inl ((((s3c, s3d), o1 ++ (([r25] : List (List UInt8))), o2), t13, t14, IntKind.i64.wrap (t15 + 1))))
        else none
    else none
  else
    some (.inr ((((s3c, s3d), o1, o2))))

def slab_Load.e : List (List UInt8) → Option ((Int × Int) × List (List UInt8) × List (Int × List UInt8)) := fun image0 =>
  if 0 ≤ (if 1000 < (image0.length : Int) then 1000 else (image0.length : Int)) ∧ (if 1000 < (image0.length : Int) then 1000 else (image0.length : Int)) ≤ (image0.length : Int) then
    (iter slab_Load.l1e fuel ((((0, (-1)), [], ([] : List (Int × List UInt8))), image0.take ((if 1000 < (image0.length : Int) then 1000 else (image0.length : Int))).toNat, ((image0.take ((if 1000 < (image0.length : Int) then 1000 else (image0.length : Int))).toNat).length : Int), 0))).bind fun ((s3c, s3d), o1, o2) =>
      some ((((s3c, s3d), o1, o2)))
  else none

theorem slab_Load.l1.le : ∀ s, Le (slab_Load.l1e s) (slab_Load.l1 s) := fun (((s3c, s3d), o1, o2), t13, t14, t15) => by first | exact Le.ite (Le.ite (Le.bind (slab_whole.le (t13.getD t15.toNat [])) (fun r25 => Le.ite (Le.rfl) (Le.rfl))) (Le.rfl)) (Le.rfl) | (unfold slab_Load.l1e slab_Load.l1; exact Le.ite (Le.ite (Le.bind (slab_whole.le (t13.getD t15.toNat [])) (fun r25 => Le.ite (Le.rfl) (Le.rfl))) (Le.rfl)) (Le.rfl))
theorem slab_Load.le : ∀ a, Le (slab_Load.e a) (slab_Load a) := fun image0 => by first | exact Le.ite (Le.bind (Le.loop slab_Load.l1.le) (fun ((s3c, s3d), o1, o2) => Le.rfl)) (Le.rfl) | (unfold slab_Load.e slab_Load; exact Le.ite (Le.bind (Le.loop slab_Load.l1.le) (fun ((s3c, s3d), o1, o2) => Le.rfl)) (Le.rfl))

def slab_New.e : Int → Option ((Int × Int) × List (List UInt8) × List (Int × List UInt8)) := fun n0 =>
  if 0 ≤ (if 1000 < (if 0 > n0 then 0 else n0) then 1000 else (if 0 > n0 then 0 else n0)) ∧ (if 1000 < (if 0 > n0 then 0 else n0) then 1000 else (if 0 > n0 then 0 else n0)) ≤ (if 1000 < (if 0 > n0 then 0 else n0) then 1000 else (if 0 > n0 then 0 else n0)) ∧ (if 1000 < (if 0 > n0 then 0 else n0) then 1000 else (if 0 > n0 then 0 else n0)) * (16 : Nat) ≤ 140737488355328 ∧ (if 1000 < (if 0 > n0 then 0 else n0) then 1000 else (if 0 > n0 then 0 else n0)) ≤ 9223372036854775807 then
    (slab_Load.e (List.replicate ((if 1000 < (if 0 > n0 then 0 else n0) then 1000 else (if 0 > n0 then 0 else n0))).toNat ([] : List UInt8))).bind fun ((r7, r7_2), r7_3, r7_4) =>
      some ((((r7, r7_2), r7_3, r7_4)))
  else none

theorem slab_New.le : ∀ a, Le (slab_New.e a) (slab_New a) := fun n0 => by first | exact Le.ite (Le.bind (slab_Load.le (List.replicate ((if 1000 < (if 0 > n0 then 0 else n0) then 1000 else (if 0 > n0 then 0 else n0))).toNat ([] : List UInt8))) (fun ((r7, r7_2), r7_3, r7_4) => Le.rfl)) (Le.rfl) | (unfold slab_New.e slab_New; exact Le.ite (Le.bind (slab_Load.le (List.replicate ((if 1000 < (if 0 > n0 then 0 else n0) then 1000 else (if 0 > n0 then 0 else n0))).toNat ([] : List UInt8))) (fun ((r7, r7_2), r7_3, r7_4) => Le.rfl)) (Le.rfl))

def slab_Slab_call.e : ((Int × Int) × List (List UInt8) × List (Int × List UInt8)) → Option (((Int × Int) × List (List UInt8) × List (Int × List UInt8)) × Int) := fun ((s0c, s0d), o1, o2) =>
  ((
    if (s0d == 0) = true then
      some (.inr (((((IntKind.i64.wrap (s0c + 1), s0d), o1, o2), 14))))
    else
      if decide (s0d > 0) = true then
        some (.inl (((s0c, IntKind.i64.wrap (s0d - 1)), o1, o2)))
      else
        some (.inl (((s0c, s0d), o1, o2)))) : Option (((Int × Int) × List (List UInt8) × List (Int × List UInt8)) ⊕ (((Int × Int) × List (List UInt8) × List (Int × List UInt8)) × Int))).bind fun d => match d with
  | .inl ((s0c, s0d), o1, o2) =>
    some (((((IntKind.i64.wrap (s0c + 1), s0d), o1, o2), 0)))
  | .inr ((((o0c, o0d), o1, o2), t2)) =>
    some (((((o0c, o0d), o1, o2), t2)))

theorem slab_Slab_call.le : ∀ a, Le (slab_Slab_call.e a) (slab_Slab_call a) := fun ((s0c, s0d), o1, o2) => by first | exact Le.bind (Le.ite (Le.rfl) (Le.ite (Le.rfl) (Le.rfl))) (fun d => match d with | .inl ((s0c, s0d), o1, o2) => Le.rfl | .inr ((((o0c, o0d), o1, o2), t2)) => Le.rfl) | (unfold slab_Slab_call.e slab_Slab_call; exact Le.bind (Le.ite (Le.rfl) (Le.ite (Le.rfl) (Le.rfl))) (fun d => match d with | .inl ((s0c, s0d), o1, o2) => Le.rfl | .inr ((((o0c, o0d), o1, o2), t2)) => Le.rfl))

def slab_Slab_there.e : ((List (List UInt8) × (List (Int × List UInt8)) × Int × Int) × Int) → Option (Bool) := fun (s0, i1) =>
  if decide (i1 ≥ 0) = true then
    some ((decide (i1 < (s0.1.length : Int))))
  else
    some false

theorem slab_Slab_there.le : ∀ a, Le (slab_Slab_there.e a) (slab_Slab_there a) := fun (s0, i1) => by first | exact Le.ite (Le.rfl) (Le.rfl) | (unfold slab_Slab_there.e slab_Slab_there; exact Le.ite (Le.rfl) (Le.rfl))

def slab_Slab_Write.e : (((Int × Int) × List (List UInt8) × List (Int × List UInt8)) × Int × List UInt8) → Option (((Int × Int) × List (List UInt8) × List (Int × List UInt8)) × Int) := fun (((s0c, s0d), o1, o2), i1, data2) =>
  (slab_Slab_call.e ((s0c, s0d), o1, o2)).bind fun (((r9, r9_2), r9_3, r9_4), r9_5) =>
    if (r9_5 != 0) = true then
      some (((((r9, r9_2), r9_3, r9_4), r9_5)))
    else
      (slab_Slab_there.e ((r9_3, r9_4, r9, r9_2), i1)).bind fun r15 =>
        if (!r15) = false then
          if decide ((data2.length : Int) > 128) = true then
            some (((((r9, r9_2), r9_3, r9_4), 1)))
          else
            (slab_whole.e data2).bind fun r28 =>
              some (((((r9, r9_2), r9_3, mput (K := I) (V := .str) r9_4 i1 r28), 0)))
        else
          some (((((r9, r9_2), r9_3, r9_4), 1)))

theorem slab_Slab_Write.le : ∀ a, Le (slab_Slab_Write.e a) (slab_Slab_Write a) := fun (((s0c, s0d), o1, o2), i1, data2) => by first | exact Le.bind (slab_Slab_call.le ((s0c, s0d), o1, o2)) (fun (((r9, r9_2), r9_3, r9_4), r9_5) => Le.ite (Le.rfl) (Le.bind (slab_Slab_there.le ((r9_3, r9_4, r9, r9_2), i1)) (fun r15 => Le.ite (Le.ite (Le.rfl) (Le.bind (slab_whole.le data2) (fun r28 => Le.rfl))) (Le.rfl)))) | (unfold slab_Slab_Write.e slab_Slab_Write; exact Le.bind (slab_Slab_call.le ((s0c, s0d), o1, o2)) (fun (((r9, r9_2), r9_3, r9_4), r9_5) => Le.ite (Le.rfl) (Le.bind (slab_Slab_there.le ((r9_3, r9_4, r9, r9_2), i1)) (fun r15 => Le.ite (Le.ite (Le.rfl) (Le.bind (slab_whole.le data2) (fun r28 => Le.rfl))) (Le.rfl)))))

def maps_Keys_map_int_string_int_string.e : (List (Int × List UInt8)) → Option (List (Int × List UInt8)) := fun m0 =>
  some m0

theorem maps_Keys_map_int_string_int_string.le : ∀ a, Le (maps_Keys_map_int_string_int_string.e a) (maps_Keys_map_int_string_int_string a) := fun m0 => by first | exact Le.rfl | (unfold maps_Keys_map_int_string_int_string.e maps_Keys_map_int_string_int_string; exact Le.rfl)

def slab_Slab_Loose.e : ((Int × Int) × List (List UInt8) × List (Int × List UInt8)) → Option (((Int × Int) × List (List UInt8) × List (Int × List UInt8)) × List Int) := fun ((s0c, s0d), o1, o2) =>
  (maps_Keys_map_int_string_int_string.e o2).bind fun r9 =>
    (slices_Sorted r9).bind fun (r10, r10_2) =>
      some (((((s0c, s0d), o1, r10), r10_2)))

theorem slab_Slab_Loose.le : ∀ a, Le (slab_Slab_Loose.e a) (slab_Slab_Loose a) := fun ((s0c, s0d), o1, o2) => by first | exact Le.bind (maps_Keys_map_int_string_int_string.le o2) (fun r9 => Le.bind Le.rfl (fun (r10, r10_2) => Le.rfl)) | (unfold slab_Slab_Loose.e slab_Slab_Loose; exact Le.bind (maps_Keys_map_int_string_int_string.le o2) (fun r9 => Le.bind Le.rfl (fun (r10, r10_2) => Le.rfl)))

def slab_Slab_Flush_1.e : Int → Option (Bool) := fun t0 =>
  some true

theorem slab_Slab_Flush_1.le : ∀ a, Le (slab_Slab_Flush_1.e a) (slab_Slab_Flush_1 a) := fun t0 => by first | exact Le.rfl | (unfold slab_Slab_Flush_1.e slab_Slab_Flush_1; exact Le.rfl)

def slab_Slab_keep.l1e : (((Int × Int) × List (List UInt8) × List (Int × List UInt8)) × List Int × Int × Int) → Option ((((Int × Int) × List (List UInt8) × List (Int × List UInt8)) × List Int × Int × Int) ⊕ ((Int × Int) × List (List UInt8) × List (Int × List UInt8))) := fun (((s0c, s0d), o1, o2), t7, t8, t9) =>
  if decide (t9 < t8) = true then
    if 0 ≤ t9 ∧ t9 < (t7.length : Int) then
      (slab_Slab_Flush_1.e t9).bind fun r16 =>
        if r16 = true then
          if 0 ≤ t7.getD t9.toNat 0 ∧ t7.getD t9.toNat 0 < (o1.length : Int) then
            some (.inl ((((s0c, s0d), o1.set ((t7.getD t9.toNat 0).toNat) (((mget (K := I) (V := .str) o2 (t7.getD t9.toNat 0)).getD [])), o2), t7, t8, IntKind.i64.wrap (t9 + 1))))
          else none
        else
          some (.inl ((((s0c, s0d), o1, o2), t7, t8, IntKind.i64.wrap (t9 + 1))))
    else none
  else
    some (.inr ((((s0c, s0d), o1, o2))))

def slab_Slab_keep.e : ((Int × Int) × List (List UInt8) × List (Int × List UInt8)) → Option ((Int × Int) × List (List UInt8) × List (Int × List UInt8)) := fun ((s0c, s0d), o1, o2) =>
  (slab_Slab_Loose.e ((s0c, s0d), o1, o2)).bind fun ((_, _, _), r7) =>
    (iter slab_Slab_keep.l1e fuel ((((s0c, s0d), o1, o2), r7, (r7.length : Int), 0))).bind fun ((s0c, s0d), o1, o2) =>
      some ((((s0c, s0d), o1, ([] : List (Int × List UInt8)))))

theorem slab_Slab_keep.l1.le : ∀ s, Le (slab_Slab_keep.l1e s) (slab_Slab_keep.l1 s) := fun (((s0c, s0d), o1, o2), t7, t8, t9) => by first | exact Le.ite (Le.ite (Le.bind (slab_Slab_Flush_1.le t9) (fun r16 => Le.ite (Le.ite (Le.rfl) (Le.rfl)) (Le.rfl))) (Le.rfl)) (Le.rfl) | (unfold slab_Slab_keep.l1e slab_Slab_keep.l1; exact Le.ite (Le.ite (Le.bind (slab_Slab_Flush_1.le t9) (fun r16 => Le.ite (Le.ite (Le.rfl) (Le.rfl)) (Le.rfl))) (Le.rfl)) (Le.rfl))
theorem slab_Slab_keep.le : ∀ a, Le (slab_Slab_keep.e a) (slab_Slab_keep a) := fun ((s0c, s0d), o1, o2) => by first | exact Le.bind (slab_Slab_Loose.le ((s0c, s0d), o1, o2)) (fun ((_, _, _), r7) => Le.bind (Le.loop slab_Slab_keep.l1.le) (fun ((s0c, s0d), o1, o2) => Le.rfl)) | (unfold slab_Slab_keep.e slab_Slab_keep; exact Le.bind (slab_Slab_Loose.le ((s0c, s0d), o1, o2)) (fun ((_, _, _), r7) => Le.bind (Le.loop slab_Slab_keep.l1.le) (fun ((s0c, s0d), o1, o2) => Le.rfl)))

def slab_Slab_Flush.e : ((Int × Int) × List (List UInt8) × List (Int × List UInt8)) → Option (((Int × Int) × List (List UInt8) × List (Int × List UInt8)) × Int) := fun ((s0c, s0d), o1, o2) =>
  (slab_Slab_call.e ((s0c, s0d), o1, o2)).bind fun (((r5, r5_2), r5_3, r5_4), r5_5) =>
    if (r5_5 == 0) = true then
      (slab_Slab_keep.e ((r5, r5_2), r5_3, r5_4)).bind fun ((r9, r9_2), r9_3, r9_4) =>
        some (((((r9, r9_2), r9_3, r9_4), r5_5)))
    else
      some (((((r5, r5_2), r5_3, r5_4), r5_5)))

theorem slab_Slab_Flush.le : ∀ a, Le (slab_Slab_Flush.e a) (slab_Slab_Flush a) := fun ((s0c, s0d), o1, o2) => by first | exact Le.bind (slab_Slab_call.le ((s0c, s0d), o1, o2)) (fun (((r5, r5_2), r5_3, r5_4), r5_5) => Le.ite (Le.bind (slab_Slab_keep.le ((r5, r5_2), r5_3, r5_4)) (fun ((r9, r9_2), r9_3, r9_4) => Le.rfl)) (Le.rfl)) | (unfold slab_Slab_Flush.e slab_Slab_Flush; exact Le.bind (slab_Slab_call.le ((s0c, s0d), o1, o2)) (fun (((r5, r5_2), r5_3, r5_4), r5_5) => Le.ite (Le.bind (slab_Slab_keep.le ((r5, r5_2), r5_3, r5_4)) (fun ((r9, r9_2), r9_3, r9_4) => Le.rfl)) (Le.rfl)))

def slab_Slab_Read.e : ((List (List UInt8) × (List (Int × List UInt8)) × Int × Int) × Int) → Option (List UInt8) := fun (s0, i1) =>
  (slab_Slab_there.e (s0, i1)).bind fun r9 =>
    if (!r9) = true then
      some []
    else
      if (mget (K := I) (V := .str) s0.2.1 i1).isSome = true then
        some ((((mget (K := I) (V := .str) s0.2.1 i1).getD [])))
      else
        if 0 ≤ i1 ∧ i1 < (s0.1.length : Int) then
          some ((s0.1.getD i1.toNat []))
        else none

theorem slab_Slab_Read.le : ∀ a, Le (slab_Slab_Read.e a) (slab_Slab_Read a) := fun (s0, i1) => by first | exact Le.bind (slab_Slab_there.le (s0, i1)) (fun r9 => Le.ite (Le.rfl) (Le.ite (Le.rfl) (Le.ite (Le.rfl) (Le.rfl)))) | (unfold slab_Slab_Read.e slab_Slab_Read; exact Le.bind (slab_Slab_there.le (s0, i1)) (fun r9 => Le.ite (Le.rfl) (Le.ite (Le.rfl) (Le.ite (Le.rfl) (Le.rfl)))))

def wainwrightref01_Zeros.e : Int → Option (List UInt8) := fun n0 =>
  if 0 ≤ n0 ∧ n0 ≤ n0 ∧ n0 * (1 : Nat) ≤ 140737488355328 ∧ n0 ≤ 9223372036854775807 then
    some (((List.replicate n0.toNat (0 : Int)).map fun (n : Int) => UInt8.ofNat n.toNat))
  else none

theorem wainwrightref01_Zeros.le : ∀ a, Le (wainwrightref01_Zeros.e a) (wainwrightref01_Zeros a) := fun n0 => by first | exact Le.ite (Le.rfl) (Le.rfl) | (unfold wainwrightref01_Zeros.e wainwrightref01_Zeros; exact Le.ite (Le.rfl) (Le.rfl))

def wainwrightref02_Whole.e : List UInt8 → Option (List UInt8) := fun s0 =>
  if 0 ≤ (if 128 < (s0.length : Int) then 128 else (s0.length : Int)) ∧ (if 128 < (s0.length : Int) then 128 else (s0.length : Int)) ≤ (s0.length : Int) then
    (wainwrightref01_Zeros.e (IntKind.i64.wrap (128 - ((s0.take ((if 128 < (s0.length : Int) then 128 else (s0.length : Int))).toNat).length : Int)))).bind fun r12 =>
      if (s0.take ((if 128 < (s0.length : Int) then 128 else (s0.length : Int))).toNat).length + r12.length ≤ 9223372036854775807 then
        some (((s0.take ((if 128 < (s0.length : Int) then 128 else (s0.length : Int))).toNat) ++ r12))
      else none
  else none

theorem wainwrightref02_Whole.le : ∀ a, Le (wainwrightref02_Whole.e a) (wainwrightref02_Whole a) := fun s0 => by first | exact Le.ite (Le.bind (wainwrightref01_Zeros.le (IntKind.i64.wrap (128 - ((s0.take ((if 128 < (s0.length : Int) then 128 else (s0.length : Int))).toNat).length : Int)))) (fun r12 => Le.ite (Le.rfl) (Le.rfl))) (Le.rfl) | (unfold wainwrightref02_Whole.e wainwrightref02_Whole; exact Le.ite (Le.bind (wainwrightref01_Zeros.le (IntKind.i64.wrap (128 - ((s0.take ((if 128 < (s0.length : Int) then 128 else (s0.length : Int))).toNat).length : Int)))) (fun r12 => Le.ite (Le.rfl) (Le.rfl))) (Le.rfl))

def slab_Slab_Crash_1.e : (Int × List Bool) → Option (Bool) := fun (k0, t1) =>
  if decide ((t1.length : Int) > 0) = true then
    if (t1.length : Int) = 0 then none else
    if 0 ≤ Int.tmod k0 (t1.length : Int) ∧ Int.tmod k0 (t1.length : Int) < (t1.length : Int) then
      some ((t1.getD ((Int.tmod k0 (t1.length : Int)).toNat) false))
    else none
  else
    some false

theorem slab_Slab_Crash_1.le : ∀ a, Le (slab_Slab_Crash_1.e a) (slab_Slab_Crash_1 a) := fun (k0, t1) => by first | exact Le.ite (Le.ite (Le.rfl) (Le.ite (Le.rfl) (Le.rfl))) (Le.rfl) | (unfold slab_Slab_Crash_1.e slab_Slab_Crash_1; exact Le.ite (Le.ite (Le.rfl) (Le.ite (Le.rfl) (Le.rfl))) (Le.rfl))

def slab_Slab_keep_1.l1e : (((Int × Int) × List (List UInt8) × List (Int × List UInt8)) × List Bool × List Int × Int × Int) → Option ((((Int × Int) × List (List UInt8) × List (Int × List UInt8)) × List Bool × List Int × Int × Int) ⊕ ((Int × Int) × List (List UInt8) × List (Int × List UInt8))) := fun (((s0c, s0d), o1, o2), is1c0, t7, t8, t9) =>
  if decide (t9 < t8) = true then
    if 0 ≤ t9 ∧ t9 < (t7.length : Int) then
      (slab_Slab_Crash_1.e (t9, is1c0)).bind fun r16 =>
        if r16 = true then
          if 0 ≤ t7.getD t9.toNat 0 ∧ t7.getD t9.toNat 0 < (o1.length : Int) then
            some (.inl ((((s0c, s0d), o1.set ((t7.getD t9.toNat 0).toNat) (((mget (K := I) (V := .str) o2 (t7.getD t9.toNat 0)).getD [])), o2), is1c0, t7, t8, IntKind.i64.wrap (t9 + 1))))
          else none
        else
          some (.inl ((((s0c, s0d), o1, o2), is1c0, t7, t8, IntKind.i64.wrap (t9 + 1))))
    else none
  else
    some (.inr ((((s0c, s0d), o1, o2))))

def slab_Slab_keep_1.e : (((Int × Int) × List (List UInt8) × List (Int × List UInt8)) × List Bool) → Option ((Int × Int) × List (List UInt8) × List (Int × List UInt8)) := fun (((s0c, s0d), o1, o2), is1c0) =>
  (slab_Slab_Loose.e ((s0c, s0d), o1, o2)).bind fun ((_, _, _), r7) =>
    (iter slab_Slab_keep_1.l1e fuel ((((s0c, s0d), o1, o2), is1c0, r7, (r7.length : Int), 0))).bind fun ((s0c, s0d), o1, o2) =>
      some ((((s0c, s0d), o1, ([] : List (Int × List UInt8)))))

theorem slab_Slab_keep_1.l1.le : ∀ s, Le (slab_Slab_keep_1.l1e s) (slab_Slab_keep_1.l1 s) := fun (((s0c, s0d), o1, o2), is1c0, t7, t8, t9) => by first | exact Le.ite (Le.ite (Le.bind (slab_Slab_Crash_1.le (t9, is1c0)) (fun r16 => Le.ite (Le.ite (Le.rfl) (Le.rfl)) (Le.rfl))) (Le.rfl)) (Le.rfl) | (unfold slab_Slab_keep_1.l1e slab_Slab_keep_1.l1; exact Le.ite (Le.ite (Le.bind (slab_Slab_Crash_1.le (t9, is1c0)) (fun r16 => Le.ite (Le.ite (Le.rfl) (Le.rfl)) (Le.rfl))) (Le.rfl)) (Le.rfl))
theorem slab_Slab_keep_1.le : ∀ a, Le (slab_Slab_keep_1.e a) (slab_Slab_keep_1 a) := fun (((s0c, s0d), o1, o2), is1c0) => by first | exact Le.bind (slab_Slab_Loose.le ((s0c, s0d), o1, o2)) (fun ((_, _, _), r7) => Le.bind (Le.loop slab_Slab_keep_1.l1.le) (fun ((s0c, s0d), o1, o2) => Le.rfl)) | (unfold slab_Slab_keep_1.e slab_Slab_keep_1; exact Le.bind (slab_Slab_Loose.le ((s0c, s0d), o1, o2)) (fun ((_, _, _), r7) => Le.bind (Le.loop slab_Slab_keep_1.l1.le) (fun ((s0c, s0d), o1, o2) => Le.rfl)))

def slab_Slab_Crash.e : (((Int × Int) × List (List UInt8) × List (Int × List UInt8)) × List Bool) → Option ((Int × Int) × List (List UInt8) × List (Int × List UInt8)) := fun (((s0c, s0d), o1, o2), keep1) =>
  (slab_Slab_keep_1.e (((s0c, s0d), o1, o2), keep1)).bind fun ((r8, r8_2), r8_3, r8_4) =>
    some ((((r8, (-1)), r8_3, r8_4)))

theorem slab_Slab_Crash.le : ∀ a, Le (slab_Slab_Crash.e a) (slab_Slab_Crash a) := fun (((s0c, s0d), o1, o2), keep1) => by first | exact Le.bind (slab_Slab_keep_1.le (((s0c, s0d), o1, o2), keep1)) (fun ((r8, r8_2), r8_3, r8_4) => Le.rfl) | (unfold slab_Slab_Crash.e slab_Slab_Crash; exact Le.bind (slab_Slab_keep_1.le (((s0c, s0d), o1, o2), keep1)) (fun ((r8, r8_2), r8_3, r8_4) => Le.rfl))

def slab_Slab_Size.e : (List (List UInt8) × (List (Int × List UInt8)) × Int × Int) → Option (Int) := fun s0 =>
  some (((s0.1.length : Int)))

theorem slab_Slab_Size.le : ∀ a, Le (slab_Slab_Size.e a) (slab_Slab_Size a) := fun s0 => by first | exact Le.rfl | (unfold slab_Slab_Size.e slab_Slab_Size; exact Le.rfl)

def slab_Slab_Calls.e : (List (List UInt8) × (List (Int × List UInt8)) × Int × Int) → Option (Int) := fun s0 =>
  some s0.2.2.1

theorem slab_Slab_Calls.le : ∀ a, Le (slab_Slab_Calls.e a) (slab_Slab_Calls a) := fun s0 => by first | exact Le.rfl | (unfold slab_Slab_Calls.e slab_Slab_Calls; exact Le.rfl)

def wainwrightlaw02_lives.e : Unit → Option (Bool) := fun _ =>
  (slab_New.e 2).bind fun ((r2, r2_2), r2_3, r2_4) =>
    (slab_Slab_Write.e (((r2, r2_2), r2_3, r2_4), 0, ([97] : List UInt8))).bind fun (((r7, r7_2), r7_3, r7_4), r7_5) =>
      if (r7_5 != 0) = false then
        (slab_Slab_Flush.e ((r7, r7_2), r7_3, r7_4)).bind fun (((r12, r12_2), r12_3, r12_4), r12_5) =>
          if (r12_5 != 0) = false then
            (slab_Slab_Write.e (((r12, r12_2), r12_3, r12_4), 0, ([98] : List UInt8))).bind fun (((r17, r17_2), r17_3, r17_4), r17_5) =>
              if (r17_5 != 0) = false then
                (slab_Slab_Read.e ((r17_3, r17_4, r17, r17_2), 0)).bind fun r22 =>
                  (wainwrightref02_Whole.e ([98] : List UInt8)).bind fun r23 =>
                    if (!(r22 == r23)) = true then
                      some false
                    else
                      (slab_Slab_Crash.e (((r17, r17_2), r17_3, r17_4), ([] : List Bool))).bind fun ((r27, r27_2), r27_3, r27_4) =>
                        (slab_Slab_Read.e ((r27_3, r27_4, r27, r27_2), 0)).bind fun r29 =>
                          (wainwrightref02_Whole.e ([97] : List UInt8)).bind fun r30 =>
                            if (r29 == r30) = true then
                              (slab_Slab_Size.e (r27_3, r27_4, r27, r27_2)).bind fun r34 =>
                                if (r34 == 2) = true then
                                  (slab_Slab_Calls.e (r27_3, r27_4, r27, r27_2)).bind fun r39 =>
                                    some (((r39 == 3)))
                                else
                                  some false
                            else
                              some false
              else
                some false
          else
            some false
      else
        some false

theorem wainwrightlaw02_lives.le : ∀ a, Le (wainwrightlaw02_lives.e a) (wainwrightlaw02_lives a) := fun _ => by first | exact Le.bind (slab_New.le 2) (fun ((r2, r2_2), r2_3, r2_4) => Le.bind (slab_Slab_Write.le (((r2, r2_2), r2_3, r2_4), 0, ([97] : List UInt8))) (fun (((r7, r7_2), r7_3, r7_4), r7_5) => Le.ite (Le.bind (slab_Slab_Flush.le ((r7, r7_2), r7_3, r7_4)) (fun (((r12, r12_2), r12_3, r12_4), r12_5) => Le.ite (Le.bind (slab_Slab_Write.le (((r12, r12_2), r12_3, r12_4), 0, ([98] : List UInt8))) (fun (((r17, r17_2), r17_3, r17_4), r17_5) => Le.ite (Le.bind (slab_Slab_Read.le ((r17_3, r17_4, r17, r17_2), 0)) (fun r22 => Le.bind (wainwrightref02_Whole.le ([98] : List UInt8)) (fun r23 => Le.ite (Le.rfl) (Le.bind (slab_Slab_Crash.le (((r17, r17_2), r17_3, r17_4), ([] : List Bool))) (fun ((r27, r27_2), r27_3, r27_4) => Le.bind (slab_Slab_Read.le ((r27_3, r27_4, r27, r27_2), 0)) (fun r29 => Le.bind (wainwrightref02_Whole.le ([97] : List UInt8)) (fun r30 => Le.ite (Le.bind (slab_Slab_Size.le (r27_3, r27_4, r27, r27_2)) (fun r34 => Le.ite (Le.bind (slab_Slab_Calls.le (r27_3, r27_4, r27, r27_2)) (fun r39 => Le.rfl)) (Le.rfl))) (Le.rfl)))))))) (Le.rfl))) (Le.rfl))) (Le.rfl))) | (unfold wainwrightlaw02_lives.e wainwrightlaw02_lives; exact Le.bind (slab_New.le 2) (fun ((r2, r2_2), r2_3, r2_4) => Le.bind (slab_Slab_Write.le (((r2, r2_2), r2_3, r2_4), 0, ([97] : List UInt8))) (fun (((r7, r7_2), r7_3, r7_4), r7_5) => Le.ite (Le.bind (slab_Slab_Flush.le ((r7, r7_2), r7_3, r7_4)) (fun (((r12, r12_2), r12_3, r12_4), r12_5) => Le.ite (Le.bind (slab_Slab_Write.le (((r12, r12_2), r12_3, r12_4), 0, ([98] : List UInt8))) (fun (((r17, r17_2), r17_3, r17_4), r17_5) => Le.ite (Le.bind (slab_Slab_Read.le ((r17_3, r17_4, r17, r17_2), 0)) (fun r22 => Le.bind (wainwrightref02_Whole.le ([98] : List UInt8)) (fun r23 => Le.ite (Le.rfl) (Le.bind (slab_Slab_Crash.le (((r17, r17_2), r17_3, r17_4), ([] : List Bool))) (fun ((r27, r27_2), r27_3, r27_4) => Le.bind (slab_Slab_Read.le ((r27_3, r27_4, r27, r27_2), 0)) (fun r29 => Le.bind (wainwrightref02_Whole.le ([97] : List UInt8)) (fun r30 => Le.ite (Le.bind (slab_Slab_Size.le (r27_3, r27_4, r27, r27_2)) (fun r34 => Le.ite (Le.bind (slab_Slab_Calls.le (r27_3, r27_4, r27, r27_2)) (fun r39 => Le.rfl)) (Le.rfl))) (Le.rfl)))))))) (Le.rfl))) (Le.rfl))) (Le.rfl))))

end Go.Proofs.Ytejeollidbbknaa.Abs
