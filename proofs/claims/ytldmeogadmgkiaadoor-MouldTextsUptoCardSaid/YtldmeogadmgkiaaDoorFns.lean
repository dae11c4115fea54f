/- The functions as the abstract machine computes them: printed by gen2.py (own work). -/
import Derived.Test.YtldmeogadmgkiaaDoorAbsStrs
import Derived.Test.YtldmeogadmgkiaaDoorProg
import Derived.Test.YtldmeogadmgkiaaDoorAbsFn
import Derived.KernelRfl
namespace Go.Proofs.YtldmeogadmgkiaaDoor.Abs
open Go Go.Proofs
abbrev I := Ty.int .i64
set_option maxRecDepth 100000
set_option linter.unusedVariables false

def tt : Nat → TI
  | 3 => ⟨.int .i64, 1, 8, [.int .i64 0]⟩
  | 4 => ⟨.bool, 1, 1, [.bool false]⟩
  | 5 => ⟨.int .u8, 1, 1, [.int .u8 0]⟩
  | 9 => ⟨.str, 1, 16, [.string .empty]⟩
  | 23 => ⟨.int .i64, 1, 8, [.int .i64 0]⟩
  | 29 => ⟨.sl 3, 1, 24, [.slice none 0 0]⟩
  | 40 => ⟨.sl 5, 1, 24, [.slice none 0 0]⟩
  | 44 => ⟨.arr 256 4, 256, 256, [.bool false, .bool false, .bool false, .bool false, .bool false, .bool false, .bool false, .bool false, .bool false, .bool false, .bool false, .bool false, .bool false, .bool false, .bool false, .bool false, .bool false, .bool false, .bool false, .bool false, .bool false, .bool false, .bool false, .bool false, .bool false, .bool false, .bool false, .bool false, .bool false, .bool false, .bool false, .bool false, .bool false, .bool false, .bool false, .bool false, .bool false, .bool false, .bool false, .bool false, .bool false, .bool false, .bool false, .bool false, .bool false, .bool false, .bool false, .bool false, .bool false, .bool false, .bool false, .bool false, .bool false, .bool false, .bool false, .bool false, .bool false, .bool false, .bool false, .bool false, .bool false, .bool false, .bool false, .bool false, .bool false, .bool false, .bool false, .bool false, .bool false, .bool false, .bool false, .bool false, .bool false, .bool false, .bool false, .bool false, .bool false, .bool false, .bool false, .bool false, .bool false, .bool false, .bool false, .bool false, .bool false, .bool false, .bool false, .bool false, .bool false, .bool false, .bool false, .bool false, .bool false, .bool false, .bool false, .bool false, .bool false, .bool false, .bool false, .bool false, .bool false, .bool false, .bool false, .bool false, .bool false, .bool false, .bool false, .bool false, .bool false, .bool false, .bool false, .bool false, .bool false, .bool false, .bool false, .bool false, .bool false, .bool false, .bool false, .bool false, .bool false, .bool false, .bool false, .bool false, .bool false, .bool false, .bool false, .bool false, .bool false, .bool false, .bool false, .bool false, .bool false, .bool false, .bool false, .bool false, .bool false, .bool false, .bool false, .bool false, .bool false, .bool false, .bool false, .bool false, .bool false, .bool false, .bool false, .bool false, .bool false, .bool false, .bool false, .bool false, .bool false, .bool false, .bool false, .bool false, .bool false, .bool false, .bool false, .bool false, .bool false, .bool false, .bool false, .bool false, .bool false, .bool false, .bool false, .bool false, .bool false, .bool false, .bool false, .bool false, .bool false, .bool false, .bool false, .bool false, .bool false, .bool false, .bool false, .bool false, .bool false, .bool false, .bool false, .bool false, .bool false, .bool false, .bool false, .bool false, .bool false, .bool false, .bool false, .bool false, .bool false, .bool false, .bool false, .bool false, .bool false, .bool false, .bool false, .bool false, .bool false, .bool false, .bool false, .bool false, .bool false, .bool false, .bool false, .bool false, .bool false, .bool false, .bool false, .bool false, .bool false, .bool false, .bool false, .bool false, .bool false, .bool false, .bool false, .bool false, .bool false, .bool false, .bool false, .bool false, .bool false, .bool false, .bool false, .bool false, .bool false, .bool false, .bool false, .bool false, .bool false, .bool false, .bool false, .bool false, .bool false, .bool false, .bool false, .bool false, .bool false, .bool false, .bool false, .bool false, .bool false, .bool false, .bool false, .bool false, .bool false, .bool false, .bool false, .bool false, .bool false, .bool false, .bool false, .bool false]⟩
  | _ => ⟨.other, 0, 0, []⟩
theorem tt_ok : TTok Tryd.prog tt := by
  intro t
  unfold tt
  split
  · exact .inr (ti_ok (d := .int .i64) (by kernel_rfl) (by simp [TK.fits]) (by kernel_rfl))
  · exact .inr (ti_ok (d := .bool) (by kernel_rfl) (by simp [TK.fits]) (by kernel_rfl))
  · exact .inr (ti_ok (d := .int .u8) (by kernel_rfl) (by simp [TK.fits]) (by kernel_rfl))
  · exact .inr (ti_ok (d := .string) (by kernel_rfl) (by simp [TK.fits]) (by kernel_rfl))
  · exact .inr (ti_ok (d := .int .i64) (by kernel_rfl) (by simp [TK.fits]) (by kernel_rfl))
  · exact .inr (ti_ok (d := .slice 3) (by kernel_rfl) (by simp [TK.fits]) (by kernel_rfl))
  · exact .inr (ti_ok (d := .slice 5) (by kernel_rfl) (by simp [TK.fits]) (by kernel_rfl))
  · exact .inr (ti_ok (d := .array 256 4) (by kernel_rfl) (by simp [TK.fits]) (by kernel_rfl))
  · exact .inl rfl
theorem mix_ok : Tryd.prog.follows .mixedOrders = true := by kernel_rfl

/-! ### wainwright/mould.Size: function 13 -/
noncomputable def mould_Size.l1 : (Int × List Int × Int × Int) → Option ((Int × List Int × Int × Int) ⊕ (Int ⊕ Int)) := fun (n3, t6, t7, t8) =>
  if decide (t8 < t7) = true then
    if 0 ≤ t8 ∧ t8 < (t6.length : Int) then
      if (t6.getD t8.toNat 0 == 1) = true then
        some (.inl ((IntKind.i64.wrap (n3 + (t6.getD t8.toNat 0)), t6, t7, IntKind.i64.wrap (t8 + 1))))
      else
        if (t6.getD t8.toNat 0 == 2) = true then
          some (.inl ((IntKind.i64.wrap (n3 + (t6.getD t8.toNat 0)), t6, t7, IntKind.i64.wrap (t8 + 1))))
        else
          if (t6.getD t8.toNat 0 == 4) = true then
            some (.inl ((IntKind.i64.wrap (n3 + (t6.getD t8.toNat 0)), t6, t7, IntKind.i64.wrap (t8 + 1))))
          else
            some (.inr (.inr (-1)))
    else none
  else
    some (.inr (.inl n3))

noncomputable def mould_Size : List Int → Option (Int) := fun widths0 =>
  (loopO mould_Size.l1 ((0, widths0, (widths0.length : Int), 0))).bind fun d => match d with
  | .inl n3 =>
    some n3
  | .inr t2 =>
    some t2

def mould_Size.ins : Spec := ⟨22, 0, [], [0], (.cons (.v (.sl I)) .nil)⟩
def mould_Size.outs : List Spec := [⟨22, 0, [], [2], (.cons (.v I) .nil)⟩]
noncomputable def mould_Size.c : Callee' := ⟨13, mkFits mould_Size.ins mould_Size.outs, mkFun mould_Size.ins mould_Size.outs mould_Size⟩
theorem mould_Size.quiet : FunQuiet mould_Size.c.F := mkFun_quiet rfl rfl
noncomputable def mould_Size.ann : Ann :=
  (.seq (.reg []) (.seq (.reg []) (.seq (.seq (.reg []) (.block (.loop ⟨22, 0, [], [3, 6, 7, 8], (.cons (.v I) (.cons (.v (.sl I)) (.cons (.v I) (.cons (.v I) .nil))))⟩ [(.exit 0, ⟨22, 0, [], [3], (.cons (.v I) .nil)⟩), (.ret, ⟨22, 0, [], [2], (.cons (.v I) .nil)⟩)]
  (.seq (.reg []) (.seq (.cond .std .std) (.seq (.block (.seq (.reg []) (.seq (.reg []) (.block (.seq (.seq (.reg []) (.cond .std (.seq (.reg []) (.cond .std (.reg []))))) (.cond (.reg []) (.seq (.reg []) .std))))))) (.reg []))))))) (.seq (.reg []) .std))))
noncomputable def mould_Size.code : Code := match Tryd.f13.body with | some c => c | none => .skip
theorem mould_Size.eq : absFn tt 22 mould_Size.ins mould_Size.outs mould_Size.code mould_Size.ann = mould_Size := by
  funext a
  kernel_rfl
theorem mould_Size.ok : mould_Size.ann.ok Tryd.prog 0 22 :=
  ann_ok (by kernel_rfl) (by kernel_rfl) (show ∀ c ∈ ([] : List Callee'), c.ok Tryd.prog from cs_nil)
    (show ∀ c ∈ ([] : List Callee'), FunQuiet c.F from cs_nil)
theorem mould_Size.sound : mould_Size.c.ok Tryd.prog := by
  refine ⟨?_, Tryd.f13, mould_Size.code, Tryd.func13, rfl, by decide⟩
  have h := fn_sound tt_ok mix_ok (x := mould_Size.ann) (ins := mould_Size.ins) (outs := mould_Size.outs) (N := 22) Tryd.func13 (c := mould_Size.code) rfl rfl (by kernel_rfl) (by kernel_rfl) mould_Size.ok (by decide)
  rw [mould_Size.eq] at h
  exact h

/-! ### wainwright/mould.Write: function 11 -/
noncomputable def mould_Write.l2 : (List Int × List Int × Int × Int × List Int × Int × Int) → Option ((List Int × List Int × Int × Int × List Int × Int × Int) ⊕ (List Int × List Int × List Int × Int × Int)) := fun (b6, widths0, v8, w9, t23, t24, t25) =>
  if decide (w9 > 0) = true then
    if roomOk (b6.length + (([IntKind.u8.wrap (v8)] : List Int)).length) 1 then
      some (.inl ((b6 ++ (([IntKind.u8.wrap (v8)] : List Int)), widths0, Int.fdiv v8 (2 ^ 8), IntKind.i64.wrap (w9 - 1), t23, t24, t25)))
    else none
  else
    some (.inr (((b6, widths0, t23, t24, t25))))

noncomputable def mould_Write.l1 : (List Int × List Int × List Int × Int × Int) → Option ((List Int × List Int × List Int × Int × Int) ⊕ ((List Int) ⊕ (List UInt8 × Int))) := fun (b6, widths0, t23, t24, t25) =>
  if decide (t25 < t24) = true then
    if 0 ≤ t25 ∧ t25 < (t23.length : Int) then
      if 0 ≤ t25 ∧ t25 < (widths0.length : Int) then
        if decide (t23.getD t25.toNat 0 < 0) = false then
          if 0 ≤ IntKind.i64.wrap (8 * (widths0.getD t25.toNat 0)) then
            if (Int.fdiv (t23.getD t25.toNat 0) (2 ^ (min (IntKind.i64.wrap (8 * (widths0.getD t25.toNat 0))).toNat 64)) != 0) = true then
              some (.inr (.inr ((([], 3)))))
            else
              (loopO mould_Write.l2 ((b6, widths0, t23.getD t25.toNat 0, widths0.getD t25.toNat 0, t23, t24, t25))).bind fun (b6, widths0, t23, t24, t25) =>
                some (.inl ((b6, widths0, t23, t24, IntKind.i64.wrap (t25 + 1))))
          else none
        else
          some (.inr (.inr ((([], 3)))))
      else none
    else none
  else
    some (.inr (.inl b6))

noncomputable def mould_Write : (List Int × List Int) → Option (List UInt8 × Int) := fun (widths0, values1) =>
  (mould_Size widths0).bind fun r11 =>
    if decide (r11 < 0) = false then
      if ((widths0.length : Int) != (values1.length : Int)) = true then
        some ((([], 1)))
      else
        (mould_Size widths0).bind fun r21 =>
          if 0 ≤ (0 : Int) ∧ (0 : Int) ≤ r21 ∧ r21 * (1 : Nat) ≤ 140737488355328 ∧ r21 ≤ 9223372036854775807 then
            (loopO mould_Write.l1 ((List.replicate 0 (0 : Int), widths0, values1, (values1.length : Int), 0))).bind fun d => match d with
            | .inl b6 =>
              some (((b6.map fun (n : Int) => UInt8.ofNat n.toNat, 0)))
            | .inr ((t4, t5)) =>
              some (((t4, t5)))
          else none
    else
      some ((([], 1)))

def mould_Write.ins : Spec := ⟨57, 0, [], [0, 1], (.cons (.v (.sl I)) (.cons (.v (.sl I)) .nil))⟩
def mould_Write.outs : List Spec := [⟨57, 0, [], [4, 5], (.cons (.v .str) (.cons (.v I) .nil))⟩]
noncomputable def mould_Write.c : Callee' := ⟨11, mkFits mould_Write.ins mould_Write.outs, mkFun mould_Write.ins mould_Write.outs mould_Write⟩
theorem mould_Write.quiet : FunQuiet mould_Write.c.F := mkFun_quiet rfl rfl
noncomputable def mould_Write.ann : Ann :=
  (.seq (.reg []) (.seq (.seq (.reg [.std, .callq [mould_Size.c]]) (.cond (.seq (.reg []) .std) .std)) (.seq (.reg [.std, .callq [mould_Size.c], .obj (.int .u8)]) (.seq (.seq (.reg []) (.block (.loop ⟨57, 0, [.arr (.int .u8)], [0, 6, 23, 24, 25], (.cons (.v (.sl I)) (.cons (.ref 0) (.cons (.v (.sl I)) (.cons (.v I) (.cons (.v I) .nil)))))⟩ [(.exit 0, ⟨57, 0, [.arr (.int .u8)], [6], (.cons (.ref 0) .nil)⟩), (.ret, ⟨57, 0, [], [4, 5], (.cons (.v .str) (.cons (.v I) .nil))⟩)]
  (.seq (.reg []) (.seq (.cond .std .std) (.seq (.block (.seq (.reg []) (.seq (.reg []) (.seq (.seq (.reg []) (.cond (.seq (.reg []) .std) .std)) (.block (.loop ⟨57, 0, [.arr (.int .u8)], [0, 6, 8, 9, 23, 24, 25], (.cons (.v (.sl I)) (.cons (.ref 0) (.cons (.v I) (.cons (.v I) (.cons (.v (.sl I)) (.cons (.v I) (.cons (.v I) .nil)))))))⟩ [(.exit 2, ⟨57, 0, [.arr (.int .u8)], [0, 6, 23, 24, 25], (.cons (.v (.sl I)) (.cons (.ref 0) (.cons (.v (.sl I)) (.cons (.v I) (.cons (.v I) .nil)))))⟩)]
  (.seq (.seq (.reg []) (.cond .std .std)) (.seq (.block (.seq (.reg [.std, .std, .std, .inl (.int .u8), .obj (.int .u8)]) (.reg []))) (.reg []))))))))) (.reg []))))))) (.seq (.reg []) .std)))))
noncomputable def mould_Write.code : Code := match Tryd.f11.body with | some c => c | none => .skip
theorem mould_Write.eq : absFn tt 57 mould_Write.ins mould_Write.outs mould_Write.code mould_Write.ann = mould_Write := by
  funext a
  kernel_rfl
theorem mould_Write.ok : mould_Write.ann.ok Tryd.prog 0 57 :=
  ann_ok (by kernel_rfl) (by kernel_rfl) (show ∀ c ∈ ([mould_Size.c, mould_Size.c] : List Callee'), c.ok Tryd.prog from cs_cons mould_Size.sound (cs_cons mould_Size.sound cs_nil))
    (show ∀ c ∈ ([mould_Size.c, mould_Size.c] : List Callee'), FunQuiet c.F from cs_cons mould_Size.quiet (cs_cons mould_Size.quiet cs_nil))
theorem mould_Write.sound : mould_Write.c.ok Tryd.prog := by
  refine ⟨?_, Tryd.f11, mould_Write.code, Tryd.func11, rfl, by decide⟩
  have h := fn_sound tt_ok mix_ok (x := mould_Write.ann) (ins := mould_Write.ins) (outs := mould_Write.outs) (N := 57) Tryd.func11 (c := mould_Write.code) rfl rfl (by kernel_rfl) (by kernel_rfl) mould_Write.ok (by decide)
  rw [mould_Write.eq] at h
  exact h

/-! ### wainwright/mould.Read: function 12 -/
noncomputable def mould_Read.l2 : (List Int × List UInt8 × Int × Int × List Int × Int × Int × List Int × Int × Int) → Option ((List Int × List UInt8 × Int × Int × List Int × Int × Int × List Int × Int × Int) ⊕ (List Int × List UInt8 × Int × List Int × Int × Int)) := fun (values7, s1, i8, w9, t25, t26, t27, t35, t36, t37) =>
  if decide (t37 < t36) = true then
    if 0 ≤ t37 ∧ t37 < (t35.length : Int) then
      if 0 ≤ i8 ∧ i8 < (values7.length : Int) then
        if 0 ≤ IntKind.i64.wrap (8 * t37) then
          if 0 ≤ i8 ∧ i8 < (values7.length : Int) then
            some (.inl ((values7.set i8.toNat (bitsOp .or .i64 (values7.getD i8.toNat 0) (IntKind.i64.wrap (IntKind.i64.wrap (t35.getD t37.toNat 0) * 2 ^ (min (IntKind.i64.wrap (8 * t37)).toNat 64)))), s1, i8, w9, t25, t26, t27, t35, t36, IntKind.i64.wrap (t37 + 1))))
          else none
        else none
      else none
    else none
  else
    some (.inr (((values7, s1, w9, t25, t26, t27))))

noncomputable def mould_Read.l1 : (List Int × List UInt8 × List Int × Int × Int) → Option ((List Int × List UInt8 × List Int × Int × Int) ⊕ (List Int)) := fun (values7, s1, t25, t26, t27) =>
  if decide (t27 < t26) = true then
    if 0 ≤ t27 ∧ t27 < (t25.length : Int) then
      if 0 ≤ t25.getD t27.toNat 0 ∧ t25.getD t27.toNat 0 ≤ (s1.length : Int) then
        (loopO mould_Read.l2 ((values7, s1, t27, t25.getD t27.toNat 0, t25, t26, t27, (s1.take (t25.getD t27.toNat 0).toNat).map fun b => (b.toNat : Int), (((s1.take (t25.getD t27.toNat 0).toNat).map fun b => (b.toNat : Int)).length : Int), 0))).bind fun (values7, s1, w9, t25, t26, t27) =>
          if 0 ≤ w9 ∧ w9 ≤ (s1.length : Int) then
            some (.inl ((values7, s1.drop w9.toNat, t25, t26, IntKind.i64.wrap (t27 + 1))))
          else none
      else none
    else none
  else
    some (.inr values7)

noncomputable def mould_Read : (List Int × List UInt8) → Option (List Int × Int) := fun (widths0, s1) =>
  (mould_Size widths0).bind fun r13 =>
    if decide (r13 < 0) = true then
      some (((([] : List Int), 1)))
    else
      if decide ((s1.length : Int) < r13) = true then
        some (((([] : List Int), 2)))
      else
        if 0 ≤ (widths0.length : Int) ∧ (widths0.length : Int) ≤ (widths0.length : Int) ∧ (widths0.length : Int) * (8 : Nat) ≤ 140737488355328 ∧ (widths0.length : Int) ≤ 9223372036854775807 then
          (loopO mould_Read.l1 ((List.replicate ((widths0.length : Int)).toNat (0 : Int), s1, widths0, (widths0.length : Int), 0))).bind fun values7 =>
            some (((values7, 0)))
        else none

def mould_Read.ins : Spec := ⟨59, 0, [], [0, 1], (.cons (.v (.sl I)) (.cons (.v .str) .nil))⟩
def mould_Read.outs : List Spec := [⟨59, 0, [], [4, 5], (.cons (.v (.sl I)) (.cons (.v I) .nil))⟩]
noncomputable def mould_Read.c : Callee' := ⟨12, mkFits mould_Read.ins mould_Read.outs, mkFun mould_Read.ins mould_Read.outs mould_Read⟩
theorem mould_Read.quiet : FunQuiet mould_Read.c.F := mkFun_quiet rfl rfl
noncomputable def mould_Read.ann : Ann :=
  (.seq (.reg []) (.seq (.reg [.std, .callq [mould_Size.c]]) (.seq (.block (.seq (.reg []) (.cond (.seq (.reg []) .std) (.seq (.reg []) (.cond (.seq (.reg []) .std) .std))))) (.seq (.reg [.std, .std, .obj I]) (.seq (.seq (.reg []) (.block (.loop ⟨59, 0, [.arr I], [1, 7, 25, 26, 27], (.cons (.v .str) (.cons (.ref 0) (.cons (.v (.sl I)) (.cons (.v I) (.cons (.v I) .nil)))))⟩ [(.exit 1, ⟨59, 0, [.arr I], [7], (.cons (.ref 0) .nil)⟩)]
  (.seq (.reg []) (.seq (.cond .std .std) (.seq (.block (.seq (.reg []) (.seq (.seq (.reg [.std, .std, .std, .inl (.int .u8)]) (.block (.loop ⟨59, 0, [.arr I], [1, 7, 8, 9, 25, 26, 27, 35, 36, 37], (.cons (.v .str) (.cons (.ref 0) (.cons (.v I) (.cons (.v I) (.cons (.v (.sl I)) (.cons (.v I) (.cons (.v I) (.cons (.v (.sl (.int .u8))) (.cons (.v I) (.cons (.v I) .nil))))))))))⟩ [(.exit 3, ⟨59, 0, [.arr I], [1, 7, 9, 25, 26, 27], (.cons (.v .str) (.cons (.ref 0) (.cons (.v I) (.cons (.v (.sl I)) (.cons (.v I) (.cons (.v I) .nil))))))⟩)]
  (.seq (.reg []) (.seq (.cond .std .std) (.seq (.block (.seq (.reg []) (.drw [.std, .std, .std, .std, .std, .inl (.int .u8)]))) (.reg []))))))) (.reg [])))) (.reg []))))))) (.seq (.reg []) .std))))))
noncomputable def mould_Read.code : Code := match Tryd.f12.body with | some c => c | none => .skip
theorem mould_Read.eq : absFn tt 59 mould_Read.ins mould_Read.outs mould_Read.code mould_Read.ann = mould_Read := by
  funext a
  kernel_rfl
theorem mould_Read.ok : mould_Read.ann.ok Tryd.prog 0 59 :=
  ann_ok (by kernel_rfl) (by kernel_rfl) (show ∀ c ∈ ([mould_Size.c] : List Callee'), c.ok Tryd.prog from cs_cons mould_Size.sound cs_nil)
    (show ∀ c ∈ ([mould_Size.c] : List Callee'), FunQuiet c.F from cs_cons mould_Size.quiet cs_nil)
theorem mould_Read.sound : mould_Read.c.ok Tryd.prog := by
  refine ⟨?_, Tryd.f12, mould_Read.code, Tryd.func12, rfl, by decide⟩
  have h := fn_sound tt_ok mix_ok (x := mould_Read.ann) (ins := mould_Read.ins) (outs := mould_Read.outs) (N := 59) Tryd.func12 (c := mould_Read.code) rfl rfl (by kernel_rfl) (by kernel_rfl) mould_Read.ok (by decide)
  rw [mould_Read.eq] at h
  exact h

/-! ### wainwright/wainwrightlaw01.lives: function 4 -/
noncomputable def wainwrightlaw01_lives : Unit → Option (Bool) := fun _ =>
  (mould_Write (([1, 2] : List Int), ([5, 258] : List Int))).bind fun (r8, r8_2) =>
    (mould_Read (([1, 2] : List Int), ([5, 2, 1] : List UInt8))).bind fun (r13, r13_2) =>
      if (r8_2 == 0) = true then
        if (r8 == (([5, 2, 1] : List UInt8))) = true then
          if (r13_2 == 0) = true then
            if ((r13.length : Int) == 2) = true then
              if 0 ≤ (1 : Int) ∧ (1 : Int) < (r13.length : Int) then
                if (r13.getD 1 0 == 258) = true then
                  (mould_Size ([4, 1] : List Int)).bind fun r39 =>
                    some (((r39 == 5)))
                else
                  some false
              else none
            else
              some false
          else
            some false
        else
          some false
      else
        some false

def wainwrightlaw01_lives.ins : Spec := ⟨42, 0, [], [], .nil⟩
def wainwrightlaw01_lives.outs : List Spec := [⟨42, 0, [], [0], (.cons (.v .bool) .nil)⟩]
noncomputable def wainwrightlaw01_lives.c : Callee' := ⟨4, mkFits wainwrightlaw01_lives.ins wainwrightlaw01_lives.outs, mkFun wainwrightlaw01_lives.ins wainwrightlaw01_lives.outs wainwrightlaw01_lives⟩
theorem wainwrightlaw01_lives.quiet : FunQuiet wainwrightlaw01_lives.c.F := mkFun_quiet rfl rfl
noncomputable def wainwrightlaw01_lives.ann : Ann :=
  (.seq (.reg []) (.seq (.reg [.inl I, .inl I, .callq [mould_Write.c]]) (.seq (.reg [.inl I, .callq [mould_Read.c]]) (.seq (.reg [.std, .std, .std, .std, .std, .std, .std, .std, .std, .std, .std, .std, .std, .std, .std, .std, .std, .std, .std, .std, .std, .std, .inl I, .callq [mould_Size.c]]) .std))))
noncomputable def wainwrightlaw01_lives.code : Code := match Tryd.f4.body with | some c => c | none => .skip
theorem wainwrightlaw01_lives.eq : absFn tt 42 wainwrightlaw01_lives.ins wainwrightlaw01_lives.outs wainwrightlaw01_lives.code wainwrightlaw01_lives.ann = wainwrightlaw01_lives := by
  funext a
  kernel_rfl
theorem wainwrightlaw01_lives.ok : wainwrightlaw01_lives.ann.ok Tryd.prog 0 42 :=
  ann_ok (by kernel_rfl) (by kernel_rfl) (show ∀ c ∈ ([mould_Write.c, mould_Read.c, mould_Size.c] : List Callee'), c.ok Tryd.prog from cs_cons mould_Write.sound (cs_cons mould_Read.sound (cs_cons mould_Size.sound cs_nil)))
    (show ∀ c ∈ ([mould_Write.c, mould_Read.c, mould_Size.c] : List Callee'), FunQuiet c.F from cs_cons mould_Write.quiet (cs_cons mould_Read.quiet (cs_cons mould_Size.quiet cs_nil)))
theorem wainwrightlaw01_lives.sound : wainwrightlaw01_lives.c.ok Tryd.prog := by
  refine ⟨?_, Tryd.f4, wainwrightlaw01_lives.code, Tryd.func4, rfl, by decide⟩
  have h := fn_sound tt_ok mix_ok (x := wainwrightlaw01_lives.ann) (ins := wainwrightlaw01_lives.ins) (outs := wainwrightlaw01_lives.outs) (N := 42) Tryd.func4 (c := wainwrightlaw01_lives.code) rfl rfl (by kernel_rfl) (by kernel_rfl) wainwrightlaw01_lives.ok (by decide)
  rw [wainwrightlaw01_lives.eq] at h
  exact h

/-! ### wainwright/mould.fits: function 14 -/
noncomputable def mould_fits : (List UInt8 × Int) → Option (Int) := fun (s0, n1) =>
  ((
    if decide (n1 < 0) = false then
      some (((s0, n1, decide (n1 > 1000))))
    else
      some (((s0, n1, true)))) : Option (List UInt8 × Int × Bool)).bind fun (s0, n1, t5) =>
    if t5 = true then
      some 1
    else
      if decide ((s0.length : Int) > n1) = true then
        some 3
      else
        some 0

def mould_fits.ins : Spec := ⟨17, 0, [], [0, 1], (.cons (.v .str) (.cons (.v I) .nil))⟩
def mould_fits.outs : List Spec := [⟨17, 0, [], [4], (.cons (.v I) .nil)⟩]
noncomputable def mould_fits.c : Callee' := ⟨14, mkFits mould_fits.ins mould_fits.outs, mkFun mould_fits.ins mould_fits.outs mould_fits⟩
theorem mould_fits.quiet : FunQuiet mould_fits.c.F := mkFun_quiet rfl rfl
noncomputable def mould_fits.ann : Ann :=
  (.seq (.reg []) (.seq (.block (.join [(.norm, ⟨17, 0, [], [0, 1, 5], (.cons (.v .str) (.cons (.v I) (.cons (.v .bool) .nil)))⟩)]
  (.reg []) (.cond (.seq (.reg []) .std) (.seq (.reg []) (.cond (.seq (.reg []) .std) .std))))) (.seq (.reg []) .std)))
noncomputable def mould_fits.code : Code := match Tryd.f14.body with | some c => c | none => .skip
theorem mould_fits.eq : absFn tt 17 mould_fits.ins mould_fits.outs mould_fits.code mould_fits.ann = mould_fits := by
  funext a
  kernel_rfl
theorem mould_fits.ok : mould_fits.ann.ok Tryd.prog 0 17 :=
  ann_ok (by kernel_rfl) (by kernel_rfl) (show ∀ c ∈ ([] : List Callee'), c.ok Tryd.prog from cs_nil)
    (show ∀ c ∈ ([] : List Callee'), FunQuiet c.F from cs_nil)
theorem mould_fits.sound : mould_fits.c.ok Tryd.prog := by
  refine ⟨?_, Tryd.f14, mould_fits.code, Tryd.func14, rfl, by decide⟩
  have h := fn_sound tt_ok mix_ok (x := mould_fits.ann) (ins := mould_fits.ins) (outs := mould_fits.outs) (N := 17) Tryd.func14 (c := mould_fits.code) rfl rfl (by kernel_rfl) (by kernel_rfl) mould_fits.ok (by decide)
  rw [mould_fits.eq] at h
  exact h

/-! ### wainwright/mould.Pad: function 9 -/
noncomputable def mould_Pad : (List UInt8 × Int) → Option (List UInt8 × Int) := fun (s0, n1) =>
  (mould_fits (s0, n1)).bind fun r9 =>
    if (r9 != 0) = true then
      some ((([], r9)))
    else
      (strings_Repeat (([0] : List UInt8), IntKind.i64.wrap (n1 - (s0.length : Int)))).bind fun r18 =>
        if s0.length + r18.length ≤ 9223372036854775807 then
          some (((s0 ++ r18, 0)))
        else none

def mould_Pad.ins : Spec := ⟨20, 0, [], [0, 1], (.cons (.v .str) (.cons (.v I) .nil))⟩
def mould_Pad.outs : List Spec := [⟨20, 0, [], [4, 5], (.cons (.v .str) (.cons (.v I) .nil))⟩]
noncomputable def mould_Pad.c : Callee' := ⟨9, mkFits mould_Pad.ins mould_Pad.outs, mkFun mould_Pad.ins mould_Pad.outs mould_Pad⟩
theorem mould_Pad.quiet : FunQuiet mould_Pad.c.F := mkFun_quiet rfl rfl
noncomputable def mould_Pad.ann : Ann :=
  (.seq (.reg []) (.seq (.seq (.reg [.std, .std, .callq [mould_fits.c]]) (.seq (.reg []) (.cond (.seq (.reg []) .std) .std))) (.seq (.reg [.std, .std, .std, .std, .std, .callq [strings_Repeat.c]]) .std)))
noncomputable def mould_Pad.code : Code := match Tryd.f9.body with | some c => c | none => .skip
theorem mould_Pad.eq : absFn tt 20 mould_Pad.ins mould_Pad.outs mould_Pad.code mould_Pad.ann = mould_Pad := by
  funext a
  kernel_rfl
theorem mould_Pad.ok : mould_Pad.ann.ok Tryd.prog 0 20 :=
  ann_ok (by kernel_rfl) (by kernel_rfl) (show ∀ c ∈ ([mould_fits.c, strings_Repeat.c] : List Callee'), c.ok Tryd.prog from cs_cons mould_fits.sound (cs_cons strings_Repeat.sound cs_nil))
    (show ∀ c ∈ ([mould_fits.c, strings_Repeat.c] : List Callee'), FunQuiet c.F from cs_cons mould_fits.quiet (cs_cons strings_Repeat.quiet cs_nil))
theorem mould_Pad.sound : mould_Pad.c.ok Tryd.prog := by
  refine ⟨?_, Tryd.f9, mould_Pad.code, Tryd.func9, rfl, by decide⟩
  have h := fn_sound tt_ok mix_ok (x := mould_Pad.ann) (ins := mould_Pad.ins) (outs := mould_Pad.outs) (N := 20) Tryd.func9 (c := mould_Pad.code) rfl rfl (by kernel_rfl) (by kernel_rfl) mould_Pad.ok (by decide)
  rw [mould_Pad.eq] at h
  exact h

/-! ### wainwright/mould.Text: function 5 -/
noncomputable def mould_Text : (List UInt8 × Int) → Option (List UInt8 × Int) := fun (s0, n1) =>
  (mould_fits (s0, n1)).bind fun r9 =>
    if (r9 != 0) = true then
      some ((([], r9)))
    else
      (strings_IndexByte (s0, 0)).bind fun r14 =>
        if decide (r14 ≥ 0) = true then
          some ((([], 3)))
        else
          (mould_Pad (s0, n1)).bind fun (r18, r18_2) =>
            some (((r18, r18_2)))

def mould_Text.ins : Spec := ⟨21, 0, [], [0, 1], (.cons (.v .str) (.cons (.v I) .nil))⟩
def mould_Text.outs : List Spec := [⟨21, 0, [], [4, 5], (.cons (.v .str) (.cons (.v I) .nil))⟩]
noncomputable def mould_Text.c : Callee' := ⟨5, mkFits mould_Text.ins mould_Text.outs, mkFun mould_Text.ins mould_Text.outs mould_Text⟩
theorem mould_Text.quiet : FunQuiet mould_Text.c.F := mkFun_quiet rfl rfl
noncomputable def mould_Text.ann : Ann :=
  (.seq (.reg []) (.seq (.seq (.reg [.std, .std, .callq [mould_fits.c]]) (.seq (.reg []) (.cond (.seq (.reg []) .std) .std))) (.seq (.seq (.reg [.std, .callq [strings_IndexByte.c]]) (.cond (.seq (.reg []) .std) .std)) (.seq (.reg [.std, .std, .callq [mould_Pad.c]]) .std))))
noncomputable def mould_Text.code : Code := match Tryd.f5.body with | some c => c | none => .skip
theorem mould_Text.eq : absFn tt 21 mould_Text.ins mould_Text.outs mould_Text.code mould_Text.ann = mould_Text := by
  funext a
  kernel_rfl
theorem mould_Text.ok : mould_Text.ann.ok Tryd.prog 0 21 :=
  ann_ok (by kernel_rfl) (by kernel_rfl) (show ∀ c ∈ ([mould_fits.c, strings_IndexByte.c, mould_Pad.c] : List Callee'), c.ok Tryd.prog from cs_cons mould_fits.sound (cs_cons strings_IndexByte.sound (cs_cons mould_Pad.sound cs_nil)))
    (show ∀ c ∈ ([mould_fits.c, strings_IndexByte.c, mould_Pad.c] : List Callee'), FunQuiet c.F from cs_cons mould_fits.quiet (cs_cons strings_IndexByte.quiet (cs_cons mould_Pad.quiet cs_nil)))
theorem mould_Text.sound : mould_Text.c.ok Tryd.prog := by
  refine ⟨?_, Tryd.f5, mould_Text.code, Tryd.func5, rfl, by decide⟩
  have h := fn_sound tt_ok mix_ok (x := mould_Text.ann) (ins := mould_Text.ins) (outs := mould_Text.outs) (N := 21) Tryd.func5 (c := mould_Text.code) rfl rfl (by kernel_rfl) (by kernel_rfl) mould_Text.ok (by decide)
  rw [mould_Text.eq] at h
  exact h

/-! ### wainwright/wainwrightref01.Zeros: function 19 -/
noncomputable def wainwrightref01_Zeros : Int → Option (List UInt8) := fun n0 =>
  if 0 ≤ n0 ∧ n0 ≤ n0 ∧ n0 * (1 : Nat) ≤ 140737488355328 ∧ n0 ≤ 9223372036854775807 then
    some (((List.replicate n0.toNat (0 : Int)).map fun (n : Int) => UInt8.ofNat n.toNat))
  else none

def wainwrightref01_Zeros.ins : Spec := ⟨6, 0, [], [0], (.cons (.v I) .nil)⟩
def wainwrightref01_Zeros.outs : List Spec := [⟨6, 0, [], [2], (.cons (.v .str) .nil)⟩]
noncomputable def wainwrightref01_Zeros.c : Callee' := ⟨19, mkFits wainwrightref01_Zeros.ins wainwrightref01_Zeros.outs, mkFun wainwrightref01_Zeros.ins wainwrightref01_Zeros.outs wainwrightref01_Zeros⟩
theorem wainwrightref01_Zeros.quiet : FunQuiet wainwrightref01_Zeros.c.F := mkFun_quiet rfl rfl
noncomputable def wainwrightref01_Zeros.ann : Ann :=
  (.seq (.reg []) (.seq (.reg [.std, .obj (.int .u8)]) .std))
noncomputable def wainwrightref01_Zeros.code : Code := match Tryd.f19.body with | some c => c | none => .skip
theorem wainwrightref01_Zeros.eq : absFn tt 6 wainwrightref01_Zeros.ins wainwrightref01_Zeros.outs wainwrightref01_Zeros.code wainwrightref01_Zeros.ann = wainwrightref01_Zeros := by
  funext a
  kernel_rfl
theorem wainwrightref01_Zeros.ok : wainwrightref01_Zeros.ann.ok Tryd.prog 0 6 :=
  ann_ok (by kernel_rfl) (by kernel_rfl) (show ∀ c ∈ ([] : List Callee'), c.ok Tryd.prog from cs_nil)
    (show ∀ c ∈ ([] : List Callee'), FunQuiet c.F from cs_nil)
theorem wainwrightref01_Zeros.sound : wainwrightref01_Zeros.c.ok Tryd.prog := by
  refine ⟨?_, Tryd.f19, wainwrightref01_Zeros.code, Tryd.func19, rfl, by decide⟩
  have h := fn_sound tt_ok mix_ok (x := wainwrightref01_Zeros.ann) (ins := wainwrightref01_Zeros.ins) (outs := wainwrightref01_Zeros.outs) (N := 6) Tryd.func19 (c := wainwrightref01_Zeros.code) rfl rfl (by kernel_rfl) (by kernel_rfl) wainwrightref01_Zeros.ok (by decide)
  rw [wainwrightref01_Zeros.eq] at h
  exact h

/-! ### wainwright/wainwrightref01.Pad: function 10 -/
noncomputable def wainwrightref01_Pad : (List UInt8 × Int) → Option (List UInt8 × Int) := fun (s0, n1) =>
  if decide (n1 < 0) = false then
    if decide (n1 > 1000) = true then
      some ((([], 1)))
    else
      if decide ((s0.length : Int) > n1) = true then
        some ((([], 3)))
      else
        (wainwrightref01_Zeros (IntKind.i64.wrap (n1 - (s0.length : Int)))).bind fun r21 =>
          if s0.length + r21.length ≤ 9223372036854775807 then
            some (((s0 ++ r21, 0)))
          else none
  else
    some ((([], 1)))

def wainwrightref01_Pad.ins : Spec := ⟨23, 0, [], [0, 1], (.cons (.v .str) (.cons (.v I) .nil))⟩
def wainwrightref01_Pad.outs : List Spec := [⟨23, 0, [], [4, 5], (.cons (.v .str) (.cons (.v I) .nil))⟩]
noncomputable def wainwrightref01_Pad.c : Callee' := ⟨10, mkFits wainwrightref01_Pad.ins wainwrightref01_Pad.outs, mkFun wainwrightref01_Pad.ins wainwrightref01_Pad.outs wainwrightref01_Pad⟩
theorem wainwrightref01_Pad.quiet : FunQuiet wainwrightref01_Pad.c.F := mkFun_quiet rfl rfl
noncomputable def wainwrightref01_Pad.ann : Ann :=
  (.seq (.reg []) (.seq (.seq (.reg []) (.cond (.seq (.reg []) .std) .std)) (.seq (.seq (.reg []) (.cond (.seq (.reg []) .std) .std)) (.seq (.reg [.std, .std, .std, .std, .std, .callq [wainwrightref01_Zeros.c]]) .std))))
noncomputable def wainwrightref01_Pad.code : Code := match Tryd.f10.body with | some c => c | none => .skip
theorem wainwrightref01_Pad.eq : absFn tt 23 wainwrightref01_Pad.ins wainwrightref01_Pad.outs wainwrightref01_Pad.code wainwrightref01_Pad.ann = wainwrightref01_Pad := by
  funext a
  kernel_rfl
theorem wainwrightref01_Pad.ok : wainwrightref01_Pad.ann.ok Tryd.prog 0 23 :=
  ann_ok (by kernel_rfl) (by kernel_rfl) (show ∀ c ∈ ([wainwrightref01_Zeros.c] : List Callee'), c.ok Tryd.prog from cs_cons wainwrightref01_Zeros.sound cs_nil)
    (show ∀ c ∈ ([wainwrightref01_Zeros.c] : List Callee'), FunQuiet c.F from cs_cons wainwrightref01_Zeros.quiet cs_nil)
theorem wainwrightref01_Pad.sound : wainwrightref01_Pad.c.ok Tryd.prog := by
  refine ⟨?_, Tryd.f10, wainwrightref01_Pad.code, Tryd.func10, rfl, by decide⟩
  have h := fn_sound tt_ok mix_ok (x := wainwrightref01_Pad.ann) (ins := wainwrightref01_Pad.ins) (outs := wainwrightref01_Pad.outs) (N := 23) Tryd.func10 (c := wainwrightref01_Pad.code) rfl rfl (by kernel_rfl) (by kernel_rfl) wainwrightref01_Pad.ok (by decide)
  rw [wainwrightref01_Pad.eq] at h
  exact h

/-! ### wainwright/wainwrightref01.Text: function 6 -/
noncomputable def wainwrightref01_Text.l1 : (List UInt8 × List UInt8 × Int) → Option ((List UInt8 × List UInt8 × Int) ⊕ ((List UInt8) ⊕ (List UInt8 × Int))) := fun (s0, p6, i8) =>
  if decide (i8 < (s0.length : Int)) = true then
    if 0 ≤ i8 ∧ i8 < (s0.length : Int) then
      if (((s0.getD i8.toNat 0).toNat : Int) == 0) = true then
        some (.inr (.inr ((([], 3)))))
      else
        some (.inl ((s0, p6, IntKind.i64.wrap (i8 + 1))))
    else none
  else
    some (.inr (.inl p6))

noncomputable def wainwrightref01_Text : (List UInt8 × Int) → Option (List UInt8 × Int) := fun (s0, n1) =>
  (wainwrightref01_Pad (s0, n1)).bind fun (r12, r12_2) =>
    if (r12_2 != 0) = true then
      some ((([], r12_2)))
    else
      (loopO wainwrightref01_Text.l1 ((s0, r12, 0))).bind fun d => match d with
      | .inl p6 =>
        some (((p6, 0)))
      | .inr ((t4, t5)) =>
        some (((t4, t5)))

def wainwrightref01_Text.ins : Spec := ⟨29, 0, [], [0, 1], (.cons (.v .str) (.cons (.v I) .nil))⟩
def wainwrightref01_Text.outs : List Spec := [⟨29, 0, [], [4, 5], (.cons (.v .str) (.cons (.v I) .nil))⟩]
noncomputable def wainwrightref01_Text.c : Callee' := ⟨6, mkFits wainwrightref01_Text.ins wainwrightref01_Text.outs, mkFun wainwrightref01_Text.ins wainwrightref01_Text.outs wainwrightref01_Text⟩
theorem wainwrightref01_Text.quiet : FunQuiet wainwrightref01_Text.c.F := mkFun_quiet rfl rfl
noncomputable def wainwrightref01_Text.ann : Ann :=
  (.seq (.reg []) (.seq (.reg [.std, .std, .callq [wainwrightref01_Pad.c]]) (.seq (.seq (.reg []) (.cond (.seq (.reg []) .std) .std)) (.seq (.seq (.reg []) (.block (.loop ⟨29, 0, [], [0, 6, 8], (.cons (.v .str) (.cons (.v .str) (.cons (.v I) .nil)))⟩ [(.exit 0, ⟨29, 0, [], [6], (.cons (.v .str) .nil)⟩), (.ret, ⟨29, 0, [], [4, 5], (.cons (.v .str) (.cons (.v I) .nil))⟩)]
  (.seq (.seq (.reg []) (.cond .std .std)) (.seq (.block (.seq (.reg []) (.cond (.seq (.reg []) .std) .std))) (.reg [])))))) (.seq (.reg []) .std)))))
noncomputable def wainwrightref01_Text.code : Code := match Tryd.f6.body with | some c => c | none => .skip
theorem wainwrightref01_Text.eq : absFn tt 29 wainwrightref01_Text.ins wainwrightref01_Text.outs wainwrightref01_Text.code wainwrightref01_Text.ann = wainwrightref01_Text := by
  funext a
  kernel_rfl
theorem wainwrightref01_Text.ok : wainwrightref01_Text.ann.ok Tryd.prog 0 29 :=
  ann_ok (by kernel_rfl) (by kernel_rfl) (show ∀ c ∈ ([wainwrightref01_Pad.c] : List Callee'), c.ok Tryd.prog from cs_cons wainwrightref01_Pad.sound cs_nil)
    (show ∀ c ∈ ([wainwrightref01_Pad.c] : List Callee'), FunQuiet c.F from cs_cons wainwrightref01_Pad.quiet cs_nil)
theorem wainwrightref01_Text.sound : wainwrightref01_Text.c.ok Tryd.prog := by
  refine ⟨?_, Tryd.f6, wainwrightref01_Text.code, Tryd.func6, rfl, by decide⟩
  have h := fn_sound tt_ok mix_ok (x := wainwrightref01_Text.ann) (ins := wainwrightref01_Text.ins) (outs := wainwrightref01_Text.outs) (N := 29) Tryd.func6 (c := wainwrightref01_Text.code) rfl rfl (by kernel_rfl) (by kernel_rfl) wainwrightref01_Text.ok (by decide)
  rw [wainwrightref01_Text.eq] at h
  exact h

/-! ### internal/stringslite.Cut: function 21 -/
noncomputable def stringslite_Cut : (List UInt8 × List UInt8) → Option (List UInt8 × List UInt8 × Bool) := fun (s0, sep1) =>
  (stringslite_Index (s0, sep1)).bind fun r10 =>
    if decide (r10 ≥ 0) = true then
      if 0 ≤ r10 ∧ r10 ≤ (s0.length : Int) then
        if 0 ≤ IntKind.i64.wrap (r10 + (sep1.length : Int)) ∧ IntKind.i64.wrap (r10 + (sep1.length : Int)) ≤ (s0.length : Int) then
          some (((s0.take r10.toNat, s0.drop (IntKind.i64.wrap (r10 + (sep1.length : Int))).toNat, true)))
        else none
      else none
    else
      some (((s0, [], false)))

def stringslite_Cut.ins : Spec := ⟨23, 0, [], [0, 1], (.cons (.v .str) (.cons (.v .str) .nil))⟩
def stringslite_Cut.outs : List Spec := [⟨23, 0, [], [4, 5, 6], (.cons (.v .str) (.cons (.v .str) (.cons (.v .bool) .nil)))⟩]
noncomputable def stringslite_Cut.c : Callee' := ⟨21, mkFits stringslite_Cut.ins stringslite_Cut.outs, mkFun stringslite_Cut.ins stringslite_Cut.outs stringslite_Cut⟩
theorem stringslite_Cut.quiet : FunQuiet stringslite_Cut.c.F := mkFun_quiet rfl rfl
noncomputable def stringslite_Cut.ann : Ann :=
  (.seq (.reg []) (.seq (.seq (.reg [.std, .std, .callq [stringslite_Index.c]]) (.seq (.reg []) (.cond (.seq (.drw []) .std) .std))) (.seq (.reg []) .std)))
noncomputable def stringslite_Cut.code : Code := match Tryd.f21.body with | some c => c | none => .skip
theorem stringslite_Cut.eq : absFn tt 23 stringslite_Cut.ins stringslite_Cut.outs stringslite_Cut.code stringslite_Cut.ann = stringslite_Cut := by
  funext a
  kernel_rfl
theorem stringslite_Cut.ok : stringslite_Cut.ann.ok Tryd.prog 0 23 :=
  ann_ok (by kernel_rfl) (by kernel_rfl) (show ∀ c ∈ ([stringslite_Index.c] : List Callee'), c.ok Tryd.prog from cs_cons stringslite_Index.sound cs_nil)
    (show ∀ c ∈ ([stringslite_Index.c] : List Callee'), FunQuiet c.F from cs_cons stringslite_Index.quiet cs_nil)
theorem stringslite_Cut.sound : stringslite_Cut.c.ok Tryd.prog := by
  refine ⟨?_, Tryd.f21, stringslite_Cut.code, Tryd.func21, rfl, by decide⟩
  have h := fn_sound tt_ok mix_ok (x := stringslite_Cut.ann) (ins := stringslite_Cut.ins) (outs := stringslite_Cut.outs) (N := 23) Tryd.func21 (c := stringslite_Cut.code) rfl rfl (by kernel_rfl) (by kernel_rfl) stringslite_Cut.ok (by decide)
  rw [stringslite_Cut.eq] at h
  exact h

/-! ### strings.Cut: function 16 -/
noncomputable def strings_Cut : (List UInt8 × List UInt8) → Option (List UInt8 × List UInt8 × Bool) := fun (s0, sep1) =>
  (stringslite_Cut (s0, sep1)).bind fun (r9, r9_2, r9_3) =>
    some (((r9, r9_2, r9_3)))

def strings_Cut.ins : Spec := ⟨13, 0, [], [0, 1], (.cons (.v .str) (.cons (.v .str) .nil))⟩
def strings_Cut.outs : List Spec := [⟨13, 0, [], [4, 5, 6], (.cons (.v .str) (.cons (.v .str) (.cons (.v .bool) .nil)))⟩]
noncomputable def strings_Cut.c : Callee' := ⟨16, mkFits strings_Cut.ins strings_Cut.outs, mkFun strings_Cut.ins strings_Cut.outs strings_Cut⟩
theorem strings_Cut.quiet : FunQuiet strings_Cut.c.F := mkFun_quiet rfl rfl
noncomputable def strings_Cut.ann : Ann :=
  (.seq (.reg []) (.seq (.reg [.std, .std, .callq [stringslite_Cut.c]]) .std))
noncomputable def strings_Cut.code : Code := match Tryd.f16.body with | some c => c | none => .skip
theorem strings_Cut.eq : absFn tt 13 strings_Cut.ins strings_Cut.outs strings_Cut.code strings_Cut.ann = strings_Cut := by
  funext a
  kernel_rfl
theorem strings_Cut.ok : strings_Cut.ann.ok Tryd.prog 0 13 :=
  ann_ok (by kernel_rfl) (by kernel_rfl) (show ∀ c ∈ ([stringslite_Cut.c] : List Callee'), c.ok Tryd.prog from cs_cons stringslite_Cut.sound cs_nil)
    (show ∀ c ∈ ([stringslite_Cut.c] : List Callee'), FunQuiet c.F from cs_cons stringslite_Cut.quiet cs_nil)
theorem strings_Cut.sound : strings_Cut.c.ok Tryd.prog := by
  refine ⟨?_, Tryd.f16, strings_Cut.code, Tryd.func16, rfl, by decide⟩
  have h := fn_sound tt_ok mix_ok (x := strings_Cut.ann) (ins := strings_Cut.ins) (outs := strings_Cut.outs) (N := 13) Tryd.func16 (c := strings_Cut.code) rfl rfl (by kernel_rfl) (by kernel_rfl) strings_Cut.ok (by decide)
  rw [strings_Cut.eq] at h
  exact h

/-! ### strings.trimRightByte: function 23 -/
noncomputable def strings_trimRightByte.l1 : (List UInt8 × Int) → Option ((List UInt8 × Int) ⊕ (List UInt8)) := fun (s0, c1) =>
  if decide ((s0.length : Int) > 0) = true then
    if 0 ≤ IntKind.i64.wrap ((s0.length : Int) - 1) ∧ IntKind.i64.wrap ((s0.length : Int) - 1) < (s0.length : Int) then
      if (((s0.getD ((IntKind.i64.wrap ((s0.length : Int) - 1)).toNat) 0).toNat : Int) == c1) = true then
        if 0 ≤ IntKind.i64.wrap ((s0.length : Int) - 1) ∧ IntKind.i64.wrap ((s0.length : Int) - 1) ≤ (s0.length : Int) then
          some (.inl ((s0.take (IntKind.i64.wrap ((s0.length : Int) - 1)).toNat, c1)))
        else none
      else
        some (.inr s0)
    else none
  else
    some (.inr s0)

noncomputable def strings_trimRightByte : (List UInt8 × Int) → Option (List UInt8) := fun (s0, c1) =>
  (loopO strings_trimRightByte.l1 ((s0, c1))).bind fun s0 =>
    some s0

def strings_trimRightByte.ins : Spec := ⟨23, 0, [], [0, 1], (.cons (.v .str) (.cons (.v (.int .u8)) .nil))⟩
def strings_trimRightByte.outs : List Spec := [⟨23, 0, [], [4], (.cons (.v .str) .nil)⟩]
noncomputable def strings_trimRightByte.c : Callee' := ⟨23, mkFits strings_trimRightByte.ins strings_trimRightByte.outs, mkFun strings_trimRightByte.ins strings_trimRightByte.outs strings_trimRightByte⟩
theorem strings_trimRightByte.quiet : FunQuiet strings_trimRightByte.c.F := mkFun_quiet rfl rfl
noncomputable def strings_trimRightByte.ann : Ann :=
  (.seq (.reg []) (.seq (.block (.loop ⟨23, 0, [], [0, 1], (.cons (.v .str) (.cons (.v (.int .u8)) .nil))⟩ [(.exit 0, ⟨23, 0, [], [0], (.cons (.v .str) .nil)⟩)]
  (.seq (.seq (.reg []) (.cond .std .std)) (.block (.reg []))))) (.seq (.reg []) .std)))
noncomputable def strings_trimRightByte.code : Code := match Tryd.f23.body with | some c => c | none => .skip
theorem strings_trimRightByte.eq : absFn tt 23 strings_trimRightByte.ins strings_trimRightByte.outs strings_trimRightByte.code strings_trimRightByte.ann = strings_trimRightByte := by
  funext a
  kernel_rfl
theorem strings_trimRightByte.ok : strings_trimRightByte.ann.ok Tryd.prog 0 23 :=
  ann_ok (by kernel_rfl) (by kernel_rfl) (show ∀ c ∈ ([] : List Callee'), c.ok Tryd.prog from cs_nil)
    (show ∀ c ∈ ([] : List Callee'), FunQuiet c.F from cs_nil)
theorem strings_trimRightByte.sound : strings_trimRightByte.c.ok Tryd.prog := by
  refine ⟨?_, Tryd.f23, strings_trimRightByte.code, Tryd.func23, rfl, by decide⟩
  have h := fn_sound tt_ok mix_ok (x := strings_trimRightByte.ann) (ins := strings_trimRightByte.ins) (outs := strings_trimRightByte.outs) (N := 23) Tryd.func23 (c := strings_trimRightByte.code) rfl rfl (by kernel_rfl) (by kernel_rfl) strings_trimRightByte.ok (by decide)
  rw [strings_trimRightByte.eq] at h
  exact h

/-! ### strings.trimLeftByte: function 22 -/
noncomputable def strings_trimLeftByte.l1 : (List UInt8 × Int) → Option ((List UInt8 × Int) ⊕ (List UInt8)) := fun (s0, c1) =>
  if decide ((s0.length : Int) > 0) = true then
    if 0 ≤ (0 : Int) ∧ (0 : Int) < (s0.length : Int) then
      if (((s0.getD 0 0).toNat : Int) == c1) = true then
        if 0 ≤ (1 : Int) ∧ (1 : Int) ≤ (s0.length : Int) then
          some (.inl ((s0.drop 1, c1)))
        else none
      else
        some (.inr s0)
    else none
  else
    some (.inr s0)

noncomputable def strings_trimLeftByte : (List UInt8 × Int) → Option (List UInt8) := fun (s0, c1) =>
  (loopO strings_trimLeftByte.l1 ((s0, c1))).bind fun s0 =>
    some s0

def strings_trimLeftByte.ins : Spec := ⟨17, 0, [], [0, 1], (.cons (.v .str) (.cons (.v (.int .u8)) .nil))⟩
def strings_trimLeftByte.outs : List Spec := [⟨17, 0, [], [4], (.cons (.v .str) .nil)⟩]
noncomputable def strings_trimLeftByte.c : Callee' := ⟨22, mkFits strings_trimLeftByte.ins strings_trimLeftByte.outs, mkFun strings_trimLeftByte.ins strings_trimLeftByte.outs strings_trimLeftByte⟩
theorem strings_trimLeftByte.quiet : FunQuiet strings_trimLeftByte.c.F := mkFun_quiet rfl rfl
noncomputable def strings_trimLeftByte.ann : Ann :=
  (.seq (.reg []) (.seq (.block (.loop ⟨17, 0, [], [0, 1], (.cons (.v .str) (.cons (.v (.int .u8)) .nil))⟩ [(.exit 0, ⟨17, 0, [], [0], (.cons (.v .str) .nil)⟩)]
  (.seq (.seq (.reg []) (.cond .std .std)) (.block (.reg []))))) (.seq (.reg []) .std)))
noncomputable def strings_trimLeftByte.code : Code := match Tryd.f22.body with | some c => c | none => .skip
theorem strings_trimLeftByte.eq : absFn tt 17 strings_trimLeftByte.ins strings_trimLeftByte.outs strings_trimLeftByte.code strings_trimLeftByte.ann = strings_trimLeftByte := by
  funext a
  kernel_rfl
theorem strings_trimLeftByte.ok : strings_trimLeftByte.ann.ok Tryd.prog 0 17 :=
  ann_ok (by kernel_rfl) (by kernel_rfl) (show ∀ c ∈ ([] : List Callee'), c.ok Tryd.prog from cs_nil)
    (show ∀ c ∈ ([] : List Callee'), FunQuiet c.F from cs_nil)
theorem strings_trimLeftByte.sound : strings_trimLeftByte.c.ok Tryd.prog := by
  refine ⟨?_, Tryd.f22, strings_trimLeftByte.code, Tryd.func22, rfl, by decide⟩
  have h := fn_sound tt_ok mix_ok (x := strings_trimLeftByte.ann) (ins := strings_trimLeftByte.ins) (outs := strings_trimLeftByte.outs) (N := 17) Tryd.func22 (c := strings_trimLeftByte.code) rfl rfl (by kernel_rfl) (by kernel_rfl) strings_trimLeftByte.ok (by decide)
  rw [strings_trimLeftByte.eq] at h
  exact h

/-! ### strings.Trim: function 17 -/
noncomputable def strings_Trim : (List UInt8 × List UInt8) → Option (List UInt8) := fun (s0, cutset1) =>
  if (s0 == []) = false then
    if (cutset1 == []) = true then
      some s0
    else
      ((
        if ((cutset1.length : Int) == 1) = true then
          if 0 ≤ (0 : Int) ∧ (0 : Int) < (cutset1.length : Int) then
            some (((s0, cutset1, decide (((cutset1.getD 0 0).toNat : Int) < 128))))
          else none
        else
          some (((s0, cutset1, false)))) : Option (List UInt8 × List UInt8 × Bool)).bind fun (s0, cutset1, t21) =>
        if t21 = true then
          if 0 ≤ (0 : Int) ∧ (0 : Int) < (cutset1.length : Int) then
            (strings_trimRightByte (s0, ((cutset1.getD 0 0).toNat : Int))).bind fun r25 =>
              if 0 ≤ (0 : Int) ∧ (0 : Int) < (cutset1.length : Int) then
                (strings_trimLeftByte (r25, ((cutset1.getD 0 0).toNat : Int))).bind fun r28 =>
                  some r28
              else none
          else none
        else none
  else
    some s0

def strings_Trim.ins : Spec := ⟨43, 0, [], [0, 1], (.cons (.v .str) (.cons (.v .str) .nil))⟩
def strings_Trim.outs : List Spec := [⟨43, 0, [], [4], (.cons (.v .str) .nil)⟩]
noncomputable def strings_Trim.c : Callee' := ⟨17, mkFits strings_Trim.ins strings_Trim.outs, mkFun strings_Trim.ins strings_Trim.outs strings_Trim⟩
theorem strings_Trim.quiet : FunQuiet strings_Trim.c.F := mkFun_quiet rfl rfl
noncomputable def strings_Trim.ann : Ann :=
  (.seq (.reg []) (.seq (.seq (.reg []) (.cond (.seq (.reg []) .std) .std)) (.seq (.join [(.norm, ⟨43, 0, [], [0, 1, 21], (.cons (.v .str) (.cons (.v .str) (.cons (.v .bool) .nil)))⟩)]
  (.reg []) (.cond (.seq (.drw [.std, .std, .std, .callq [strings_trimRightByte.c], .std, .std, .callq [strings_trimLeftByte.c]]) .std) .std)) (.seq (.seq (.reg []) (.seq (.reg []) (.cond (.seq (.reg []) .std) .std))) (.seq (.reg []) .std)))))
noncomputable def strings_Trim.code : Code := match Tryd.f17.body with | some c => c | none => .skip
theorem strings_Trim.eq : absFn tt 43 strings_Trim.ins strings_Trim.outs strings_Trim.code strings_Trim.ann = strings_Trim := by
  funext a
  kernel_rfl
theorem strings_Trim.ok : strings_Trim.ann.ok Tryd.prog 0 43 :=
  ann_ok (by kernel_rfl) (by kernel_rfl) (show ∀ c ∈ ([strings_trimRightByte.c, strings_trimLeftByte.c] : List Callee'), c.ok Tryd.prog from cs_cons strings_trimRightByte.sound (cs_cons strings_trimLeftByte.sound cs_nil))
    (show ∀ c ∈ ([strings_trimRightByte.c, strings_trimLeftByte.c] : List Callee'), FunQuiet c.F from cs_cons strings_trimRightByte.quiet (cs_cons strings_trimLeftByte.quiet cs_nil))
theorem strings_Trim.sound : strings_Trim.c.ok Tryd.prog := by
  refine ⟨?_, Tryd.f17, strings_Trim.code, Tryd.func17, rfl, by decide⟩
  have h := fn_sound tt_ok mix_ok (x := strings_Trim.ann) (ins := strings_Trim.ins) (outs := strings_Trim.outs) (N := 43) Tryd.func17 (c := strings_Trim.code) rfl rfl (by kernel_rfl) (by kernel_rfl) strings_Trim.ok (by decide)
  rw [strings_Trim.eq] at h
  exact h

/-! ### wainwright/mould.Untext: function 7 -/
noncomputable def mould_Untext : List UInt8 → Option (List UInt8 × Int) := fun s0 =>
  (strings_Cut (s0, ([0] : List UInt8))).bind fun (r9, r9_2, r9_3) =>
    (strings_Trim (r9_2, ([0] : List UInt8))).bind fun r14 =>
      if (!(r14 == [])) = true then
        some ((([], 15)))
      else
        some (((r9, 0)))

def mould_Untext.ins : Spec := ⟨17, 0, [], [0], (.cons (.v .str) .nil)⟩
def mould_Untext.outs : List Spec := [⟨17, 0, [], [2, 3], (.cons (.v .str) (.cons (.v I) .nil))⟩]
noncomputable def mould_Untext.c : Callee' := ⟨7, mkFits mould_Untext.ins mould_Untext.outs, mkFun mould_Untext.ins mould_Untext.outs mould_Untext⟩
theorem mould_Untext.quiet : FunQuiet mould_Untext.c.F := mkFun_quiet rfl rfl
noncomputable def mould_Untext.ann : Ann :=
  (.seq (.reg []) (.seq (.reg [.std, .callq [strings_Cut.c]]) (.seq (.seq (.reg [.std, .callq [strings_Trim.c]]) (.cond (.seq (.reg []) .std) .std)) (.seq (.reg []) .std))))
noncomputable def mould_Untext.code : Code := match Tryd.f7.body with | some c => c | none => .skip
theorem mould_Untext.eq : absFn tt 17 mould_Untext.ins mould_Untext.outs mould_Untext.code mould_Untext.ann = mould_Untext := by
  funext a
  kernel_rfl
theorem mould_Untext.ok : mould_Untext.ann.ok Tryd.prog 0 17 :=
  ann_ok (by kernel_rfl) (by kernel_rfl) (show ∀ c ∈ ([strings_Cut.c, strings_Trim.c] : List Callee'), c.ok Tryd.prog from cs_cons strings_Cut.sound (cs_cons strings_Trim.sound cs_nil))
    (show ∀ c ∈ ([strings_Cut.c, strings_Trim.c] : List Callee'), FunQuiet c.F from cs_cons strings_Cut.quiet (cs_cons strings_Trim.quiet cs_nil))
theorem mould_Untext.sound : mould_Untext.c.ok Tryd.prog := by
  refine ⟨?_, Tryd.f7, mould_Untext.code, Tryd.func7, rfl, by decide⟩
  have h := fn_sound tt_ok mix_ok (x := mould_Untext.ann) (ins := mould_Untext.ins) (outs := mould_Untext.outs) (N := 17) Tryd.func7 (c := mould_Untext.code) rfl rfl (by kernel_rfl) (by kernel_rfl) mould_Untext.ok (by decide)
  rw [mould_Untext.eq] at h
  exact h

/-! ### wainwright/wainwrightref01.Untext: function 8 -/
noncomputable def wainwrightref01_Untext.l1 : (List UInt8 × Int) → Option ((List UInt8 × Int) ⊕ (List UInt8 × Int)) := fun (s0, n4) =>
  if decide (n4 < (s0.length : Int)) = true then
    if 0 ≤ n4 ∧ n4 < (s0.length : Int) then
      if (((s0.getD n4.toNat 0).toNat : Int) != 0) = true then
        some (.inl ((s0, IntKind.i64.wrap (n4 + 1))))
      else
        some (.inr (((s0, n4))))
    else none
  else
    some (.inr (((s0, n4))))

noncomputable def wainwrightref01_Untext.l2 : (List UInt8 × Int × Int) → Option ((List UInt8 × Int × Int) ⊕ ((List UInt8 × Int) ⊕ (List UInt8 × Int))) := fun (s0, n4, i5) =>
  if decide (i5 < (s0.length : Int)) = true then
    if 0 ≤ i5 ∧ i5 < (s0.length : Int) then
      if (((s0.getD i5.toNat 0).toNat : Int) != 0) = true then
        some (.inr (.inr ((([], 15)))))
      else
        some (.inl ((s0, n4, IntKind.i64.wrap (i5 + 1))))
    else none
  else
    some (.inr (.inl ((s0, n4))))

noncomputable def wainwrightref01_Untext : List UInt8 → Option (List UInt8 × Int) := fun s0 =>
  (loopO wainwrightref01_Untext.l1 ((s0, 0))).bind fun (s0, n4) =>
    (loopO wainwrightref01_Untext.l2 ((s0, n4, n4))).bind fun d => match d with
    | .inl (s0, n4) =>
      if 0 ≤ n4 ∧ n4 ≤ (s0.length : Int) then
        some (((s0.take n4.toNat, 0)))
      else none
    | .inr ((t2, t3)) =>
      some (((t2, t3)))

def wainwrightref01_Untext.ins : Spec := ⟨32, 0, [], [0], (.cons (.v .str) .nil)⟩
def wainwrightref01_Untext.outs : List Spec := [⟨32, 0, [], [2, 3], (.cons (.v .str) (.cons (.v I) .nil))⟩]
noncomputable def wainwrightref01_Untext.c : Callee' := ⟨8, mkFits wainwrightref01_Untext.ins wainwrightref01_Untext.outs, mkFun wainwrightref01_Untext.ins wainwrightref01_Untext.outs wainwrightref01_Untext⟩
theorem wainwrightref01_Untext.quiet : FunQuiet wainwrightref01_Untext.c.F := mkFun_quiet rfl rfl
noncomputable def wainwrightref01_Untext.ann : Ann :=
  (.seq (.reg []) (.seq (.reg []) (.seq (.block (.loop ⟨32, 0, [], [0, 4], (.cons (.v .str) (.cons (.v I) .nil))⟩ [(.exit 0, ⟨32, 0, [], [0, 4], (.cons (.v .str) (.cons (.v I) .nil))⟩)]
  (.seq (.seq (.reg []) (.cond .std .std)) (.block (.reg []))))) (.seq (.seq (.reg []) (.block (.loop ⟨32, 0, [], [0, 4, 5], (.cons (.v .str) (.cons (.v I) (.cons (.v I) .nil)))⟩ [(.exit 2, ⟨32, 0, [], [0, 4], (.cons (.v .str) (.cons (.v I) .nil))⟩), (.ret, ⟨32, 0, [], [2, 3], (.cons (.v .str) (.cons (.v I) .nil))⟩)]
  (.seq (.seq (.reg []) (.cond .std .std)) (.seq (.block (.seq (.reg []) (.cond (.seq (.reg []) .std) .std))) (.reg [])))))) (.seq (.reg []) .std)))))
noncomputable def wainwrightref01_Untext.code : Code := match Tryd.f8.body with | some c => c | none => .skip
theorem wainwrightref01_Untext.eq : absFn tt 32 wainwrightref01_Untext.ins wainwrightref01_Untext.outs wainwrightref01_Untext.code wainwrightref01_Untext.ann = wainwrightref01_Untext := by
  funext a
  kernel_rfl
theorem wainwrightref01_Untext.ok : wainwrightref01_Untext.ann.ok Tryd.prog 0 32 :=
  ann_ok (by kernel_rfl) (by kernel_rfl) (show ∀ c ∈ ([] : List Callee'), c.ok Tryd.prog from cs_nil)
    (show ∀ c ∈ ([] : List Callee'), FunQuiet c.F from cs_nil)
theorem wainwrightref01_Untext.sound : wainwrightref01_Untext.c.ok Tryd.prog := by
  refine ⟨?_, Tryd.f8, wainwrightref01_Untext.code, Tryd.func8, rfl, by decide⟩
  have h := fn_sound tt_ok mix_ok (x := wainwrightref01_Untext.ann) (ins := wainwrightref01_Untext.ins) (outs := wainwrightref01_Untext.outs) (N := 32) Tryd.func8 (c := wainwrightref01_Untext.code) rfl rfl (by kernel_rfl) (by kernel_rfl) wainwrightref01_Untext.ok (by decide)
  rw [wainwrightref01_Untext.eq] at h
  exact h

/-! ### wainwright/wainwrightlaw01.MouldTexts: function 3 -/
noncomputable def wainwrightlaw01_MouldTexts : (List UInt8 × Int × List UInt8) → Option (Bool) := fun (s0, n1, t2) =>
  (wainwrightlaw01_lives ()).bind fun r21 =>
    if (!r21) = true then
      some false
    else
      (mould_Text (s0, n1)).bind fun (r26, r26_2) =>
        (wainwrightref01_Text (s0, n1)).bind fun (r32, r32_2) =>
          (mould_Untext t2).bind fun (r37, r37_2) =>
            (wainwrightref01_Untext t2).bind fun (r42, r42_2) =>
              (mould_Pad (s0, n1)).bind fun (r48, r48_2) =>
                (wainwrightref01_Pad (s0, n1)).bind fun (r54, r54_2) =>
                  (mould_Untext r26).bind fun (r59, r59_2) =>
                    if (r26 == r32) = true then
                      if (r26_2 == r32_2) = true then
                        if (r37 == r42) = true then
                          if (r37_2 == r42_2) = true then
                            if (r48 == r54) = true then
                              if (r48_2 == r54_2) = true then
                                if (r26_2 != 0) = false then
                                  if (r59_2 == 0) = true then
                                    some (((r59 == s0)))
                                  else
                                    some false
                                else
                                  some true
                              else
                                some false
                            else
                              some false
                          else
                            some false
                        else
                          some false
                      else
                        some false
                    else
                      some false

def wainwrightlaw01_MouldTexts.ins : Spec := ⟨103, 0, [], [0, 1, 2], (.cons (.v .str) (.cons (.v I) (.cons (.v .str) .nil)))⟩
def wainwrightlaw01_MouldTexts.outs : List Spec := [⟨103, 0, [], [6], (.cons (.v .bool) .nil)⟩]
noncomputable def wainwrightlaw01_MouldTexts.c : Callee' := ⟨3, mkFits wainwrightlaw01_MouldTexts.ins wainwrightlaw01_MouldTexts.outs, mkFun wainwrightlaw01_MouldTexts.ins wainwrightlaw01_MouldTexts.outs wainwrightlaw01_MouldTexts⟩
theorem wainwrightlaw01_MouldTexts.quiet : FunQuiet wainwrightlaw01_MouldTexts.c.F := mkFun_quiet rfl rfl
noncomputable def wainwrightlaw01_MouldTexts.ann : Ann :=
  (.seq (.reg []) (.seq (.seq (.reg [.callq [wainwrightlaw01_lives.c]]) (.cond (.seq (.reg []) .std) .std)) (.seq (.reg [.std, .std, .callq [mould_Text.c]]) (.seq (.reg [.std, .std, .callq [wainwrightref01_Text.c]]) (.seq (.reg [.std, .callq [mould_Untext.c]]) (.seq (.reg [.std, .callq [wainwrightref01_Untext.c]]) (.seq (.reg [.std, .std, .callq [mould_Pad.c]]) (.seq (.reg [.std, .std, .callq [wainwrightref01_Pad.c]]) (.seq (.reg [.std, .callq [mould_Untext.c]]) (.seq (.reg []) .std))))))))))
noncomputable def wainwrightlaw01_MouldTexts.code : Code := match Tryd.f3.body with | some c => c | none => .skip
theorem wainwrightlaw01_MouldTexts.eq : absFn tt 103 wainwrightlaw01_MouldTexts.ins wainwrightlaw01_MouldTexts.outs wainwrightlaw01_MouldTexts.code wainwrightlaw01_MouldTexts.ann = wainwrightlaw01_MouldTexts := by
  funext a
  kernel_rfl
theorem wainwrightlaw01_MouldTexts.ok : wainwrightlaw01_MouldTexts.ann.ok Tryd.prog 0 103 :=
  ann_ok (by kernel_rfl) (by kernel_rfl) (show ∀ c ∈ ([wainwrightlaw01_lives.c, mould_Text.c, wainwrightref01_Text.c, mould_Untext.c, wainwrightref01_Untext.c, mould_Pad.c, wainwrightref01_Pad.c, mould_Untext.c] : List Callee'), c.ok Tryd.prog from cs_cons wainwrightlaw01_lives.sound (cs_cons mould_Text.sound (cs_cons wainwrightref01_Text.sound (cs_cons mould_Untext.sound (cs_cons wainwrightref01_Untext.sound (cs_cons mould_Pad.sound (cs_cons wainwrightref01_Pad.sound (cs_cons mould_Untext.sound cs_nil))))))))
    (show ∀ c ∈ ([wainwrightlaw01_lives.c, mould_Text.c, wainwrightref01_Text.c, mould_Untext.c, wainwrightref01_Untext.c, mould_Pad.c, wainwrightref01_Pad.c, mould_Untext.c] : List Callee'), FunQuiet c.F from cs_cons wainwrightlaw01_lives.quiet (cs_cons mould_Text.quiet (cs_cons wainwrightref01_Text.quiet (cs_cons mould_Untext.quiet (cs_cons wainwrightref01_Untext.quiet (cs_cons mould_Pad.quiet (cs_cons wainwrightref01_Pad.quiet (cs_cons mould_Untext.quiet cs_nil))))))))
theorem wainwrightlaw01_MouldTexts.sound : wainwrightlaw01_MouldTexts.c.ok Tryd.prog := by
  refine ⟨?_, Tryd.f3, wainwrightlaw01_MouldTexts.code, Tryd.func3, rfl, by decide⟩
  have h := fn_sound tt_ok mix_ok (x := wainwrightlaw01_MouldTexts.ann) (ins := wainwrightlaw01_MouldTexts.ins) (outs := wainwrightlaw01_MouldTexts.outs) (N := 103) Tryd.func3 (c := wainwrightlaw01_MouldTexts.code) rfl rfl (by kernel_rfl) (by kernel_rfl) wainwrightlaw01_MouldTexts.ok (by decide)
  rw [wainwrightlaw01_MouldTexts.eq] at h
  exact h

end Go.Proofs.YtldmeogadmgkiaaDoor.Abs
