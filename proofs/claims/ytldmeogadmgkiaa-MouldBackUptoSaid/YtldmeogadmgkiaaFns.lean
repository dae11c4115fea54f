/- The functions as the abstract machine computes them: printed by gen.py (own work). -/
import Derived.Test.YtldmeogadmgkiaaProg
import Derived.Test.YtldmeogadmgkiaaAbsCode
import Derived.KernelRfl
namespace Go.Proofs.Ytldmeogadmgkiaa.Abs
open Go Go.Proofs
abbrev I := Ty.int .i64
set_option maxRecDepth 100000
set_option linter.unusedVariables false

def tt : Nat → TI
  | 3 => ⟨.int .i64, 1, 8, [.int .i64 0]⟩
  | 4 => ⟨.bool, 1, 1, [.bool false]⟩
  | 5 => ⟨.int .u8, 1, 1, [.int .u8 0]⟩
  | 9 => ⟨.str, 1, 16, [.string .empty]⟩
  | 22 => ⟨.sl 3, 1, 24, [.slice none 0 0]⟩
  | 24 => ⟨.int .i64, 1, 8, [.int .i64 0]⟩
  | 33 => ⟨.int .u64, 1, 8, [.int .u64 0]⟩
  | 46 => ⟨.sl 5, 1, 24, [.slice none 0 0]⟩
  | _ => ⟨.other, 0, 0, []⟩
theorem tt_ok : TTok Try.prog tt := by
  intro t
  unfold tt
  split
  · exact .inr (ti_ok (d := .int .i64) (by kernel_rfl) (by simp [TK.fits]) (by kernel_rfl))
  · exact .inr (ti_ok (d := .bool) (by kernel_rfl) (by simp [TK.fits]) (by kernel_rfl))
  · exact .inr (ti_ok (d := .int .u8) (by kernel_rfl) (by simp [TK.fits]) (by kernel_rfl))
  · exact .inr (ti_ok (d := .string) (by kernel_rfl) (by simp [TK.fits]) (by kernel_rfl))
  · exact .inr (ti_ok (d := .slice 3) (by kernel_rfl) (by simp [TK.fits]) (by kernel_rfl))
  · exact .inr (ti_ok (d := .int .i64) (by kernel_rfl) (by simp [TK.fits]) (by kernel_rfl))
  · exact .inr (ti_ok (d := .int .u64) (by kernel_rfl) (by simp [TK.fits]) (by kernel_rfl))
  · exact .inr (ti_ok (d := .slice 5) (by kernel_rfl) (by simp [TK.fits]) (by kernel_rfl))
  · exact .inl rfl
theorem mix_ok : Try.prog.follows .mixedOrders = true := by kernel_rfl

/-! ### wainwright/mould.Size: function 13 -/
noncomputable def mould_Size.l1 : Int × List Int × Int × Int → Option (Int × List Int × Int × Int ⊕ Int ⊕ Int) := fun (n3, t6, t7, t8) =>
  if decide (t8 < t7) = true then
    if 0 ≤ t8 ∧ t8 < (t6.length : Int) then
      if (t6.getD t8.toNat 0 == 1) = true then
        some (.inl ((IntKind.i64.wrap (n3 + (t6.getD t8.toNat 0)), t6, t7, IntKind.i64.wrap (t8 + 1))))
      else
        if (t6.getD t8.toNat 0 == 2) = true then
          some (.inl ((IntKind.i64.wrap (n3 + (t6.getD t8.toNat 0)), t6, t7, IntKind.i64.wrap (t8 + 1))))
        else
          if (t6.getD t8.toNat 0 == 4) = true then
            some (.inl ((IntKind.i64.wrap (n3 + (t6.getD t8.toNat 0)), t6, t7, IntKind.i64.wrap (t8 + 1))))
          else
            some (.inr (.inr (-1)))
    else none
  else
    some (.inr (.inl n3))

noncomputable def mould_Size : List Int → Option (Int) := fun widths0 =>
  (loopO mould_Size.l1 ((0, widths0, (widths0.length : Int), 0))).bind fun d => match d with
  | .inl n3 =>
    some n3
  | .inr t2 =>
    some t2

def mould_Size.ps : List Ty := [(.sl I)]
def mould_Size.rs : Spec := ⟨22, [], [(2, .v I)]⟩
noncomputable def mould_Size.F : Fun := mkFun [(.sl I)] ⟨22, [], [(2, .v I)]⟩ mould_Size
theorem mould_Size.nat : FunNat mould_Size.F := mkFun_nat _ _ _
noncomputable def mould_Size.ann : Ann :=
  (.seq (.reg []) (.seq (.reg []) (.seq (.seq (.reg []) (.block (.loop ⟨22, [], [(3, .v I), (6, .v (.sl I)), (7, .v I), (8, .v I)]⟩ [(.exit 0, ⟨22, [], [(3, .v I)]⟩), (.ret, ⟨22, [], [(2, .v I)]⟩)]
  (.seq (.reg []) (.seq (.cond .std .std) (.seq (.block (.seq (.reg []) (.seq (.reg []) (.block (.seq (.seq (.reg []) (.cond .std (.seq (.reg []) (.cond .std (.reg []))))) (.cond (.reg []) (.seq (.reg []) .std))))))) (.reg []))))))) (.seq (.reg []) .std))))
noncomputable def mould_Size.code : Code := match Try.f13.body with | some c => c | none => .skip
theorem mould_Size.eq : absFn tt 22 [(.sl I)] ⟨22, [], [(2, .v I)]⟩ mould_Size.code mould_Size.ann = mould_Size := by
  funext a
  kernel_rfl
theorem mould_Size.ok : mould_Size.ann.ok Try.prog 22 :=
  ann_ok (by kernel_rfl) (show ∀ h ∈ [], OAok Try.prog h ∧ h.nat from hs_nil)
theorem mould_Size.oa : OAok Try.prog (.call 13 mould_Size.F) := by
  refine ⟨?_, Try.f13, mould_Size.code, Try.func13, rfl, by decide⟩
  have h := fn_sound tt_ok mix_ok (x := mould_Size.ann) (ps := [(.sl I)]) (rs := ⟨22, [], [(2, .v I)]⟩) (N := 22) Try.func13 (c := mould_Size.code) rfl rfl rfl (by decide) mould_Size.ok (by decide)
  rw [mould_Size.eq] at h
  exact h
theorem mould_Size.sound : FnSound Try.prog 13 mould_Size.F := mould_Size.oa.1

/-! ### wainwright/mould.Write: function 11 -/
noncomputable def mould_Write.l2 : List Int × List Int × Int × Int × List Int × Int × Int → Option (List Int × List Int × Int × Int × List Int × Int × Int ⊕ (List Int × List Int × List Int × Int × Int)) := fun (widths0, b6, v8, w9, t23, t24, t25) =>
  if decide (w9 > 0) = true then
    if roomOk (b6.length + (([IntKind.u8.wrap (v8)] : List Int)).length) 1 then
      some (.inl ((widths0, b6 ++ (([IntKind.u8.wrap (v8)] : List Int)), Int.fdiv v8 (2 ^ 8), IntKind.i64.wrap (w9 - 1), t23, t24, t25)))
    else none
  else
    some (.inr ((widths0, b6, t23, t24, t25)))

noncomputable def mould_Write.l1 : List Int × List Int × List Int × Int × Int → Option (List Int × List Int × List Int × Int × Int ⊕ (List Int) ⊕ (List UInt8 × Int)) := fun (widths0, b6, t23, t24, t25) =>
  if decide (t25 < t24) = true then
    if 0 ≤ t25 ∧ t25 < (t23.length : Int) then
      if 0 ≤ t25 ∧ t25 < (widths0.length : Int) then
        if decide (t23.getD t25.toNat 0 < 0) = false then
          if 0 ≤ IntKind.i64.wrap (8 * (widths0.getD t25.toNat 0)) then
            if (Int.fdiv (t23.getD t25.toNat 0) (2 ^ (min (IntKind.i64.wrap (8 * (widths0.getD t25.toNat 0))).toNat 64)) != 0) = true then
              some (.inr (.inr ((([], 3)))))
            else
              (loopO mould_Write.l2 ((widths0, b6, t23.getD t25.toNat 0, widths0.getD t25.toNat 0, t23, t24, t25))).bind fun (widths0, b6, t23, t24, t25) =>
                some (.inl ((widths0, b6, t23, t24, IntKind.i64.wrap (t25 + 1))))
          else none
        else
          some (.inr (.inr ((([], 3)))))
      else none
    else none
  else
    some (.inr (.inl b6))

noncomputable def mould_Write : List Int × List Int → Option (List UInt8 × Int) := fun (widths0, values1) =>
  (mould_Size widths0).bind fun r11 =>
  if decide (r11 < 0) = false then
    if ((widths0.length : Int) != (values1.length : Int)) = true then
      some (([], 1))
    else
      (mould_Size widths0).bind fun r21 =>
      if 0 ≤ (0 : Int) ∧ (0 : Int) ≤ r21 ∧ r21 * (1 : Nat) ≤ 140737488355328 ∧ r21 ≤ 9223372036854775807 then
        (loopO mould_Write.l1 ((widths0, List.replicate 0 (0 : Int), values1, (values1.length : Int), 0))).bind fun d => match d with
        | .inl b6 =>
          some ((b6.map fun (n : Int) => UInt8.ofNat n.toNat, 0))
        | .inr ((t4, t5)) =>
          some ((t4, t5))
      else none
  else
    some (([], 1))

def mould_Write.ps : List Ty := [(.sl I), (.sl I)]
def mould_Write.rs : Spec := ⟨57, [], [(4, .v .str), (5, .v I)]⟩
noncomputable def mould_Write.F : Fun := mkFun [(.sl I), (.sl I)] ⟨57, [], [(4, .v .str), (5, .v I)]⟩ mould_Write
theorem mould_Write.nat : FunNat mould_Write.F := mkFun_nat _ _ _
noncomputable def mould_Write.ann : Ann :=
  (.seq (.reg []) (.seq (.seq (.reg [.std, .call 13 mould_Size.F]) (.cond (.seq (.reg []) .std) .std)) (.seq (.reg [.std, .call 13 mould_Size.F, .obj (.int .u8)]) (.seq (.seq (.reg []) (.block (.loop ⟨57, [], [(0, .v (.sl I)), (6, .own (.arr (.int .u8))), (23, .v (.sl I)), (24, .v I), (25, .v I)]⟩ [(.exit 0, ⟨57, [], [(6, .own (.arr (.int .u8)))]⟩), (.ret, ⟨57, [], [(4, .v .str), (5, .v I)]⟩)]
  (.seq (.reg []) (.seq (.cond .std .std) (.seq (.block (.seq (.reg []) (.seq (.reg []) (.seq (.seq (.reg []) (.cond (.seq (.reg []) .std) .std)) (.block (.loop ⟨57, [], [(0, .v (.sl I)), (6, .own (.arr (.int .u8))), (8, .v I), (9, .v I), (23, .v (.sl I)), (24, .v I), (25, .v I)]⟩ [(.exit 2, ⟨57, [], [(0, .v (.sl I)), (6, .own (.arr (.int .u8))), (23, .v (.sl I)), (24, .v I), (25, .v I)]⟩)]
  (.seq (.seq (.reg []) (.cond .std .std)) (.seq (.block (.seq (.reg [.std, .std, .std, .inl (.int .u8), .obj (.int .u8)]) (.reg []))) (.reg []))))))))) (.reg []))))))) (.seq (.reg []) .std)))))
noncomputable def mould_Write.code : Code := match Try.f11.body with | some c => c | none => .skip
theorem mould_Write.eq : absFn tt 57 [(.sl I), (.sl I)] ⟨57, [], [(4, .v .str), (5, .v I)]⟩ mould_Write.code mould_Write.ann = mould_Write := by
  funext a
  kernel_rfl
theorem mould_Write.ok : mould_Write.ann.ok Try.prog 57 :=
  ann_ok (by kernel_rfl) (show ∀ h ∈ [OA.call 13 mould_Size.F, OA.call 13 mould_Size.F], OAok Try.prog h ∧ h.nat from hs_cons mould_Size.oa mould_Size.nat (hs_cons mould_Size.oa mould_Size.nat hs_nil))
theorem mould_Write.oa : OAok Try.prog (.call 11 mould_Write.F) := by
  refine ⟨?_, Try.f11, mould_Write.code, Try.func11, rfl, by decide⟩
  have h := fn_sound tt_ok mix_ok (x := mould_Write.ann) (ps := [(.sl I), (.sl I)]) (rs := ⟨57, [], [(4, .v .str), (5, .v I)]⟩) (N := 57) Try.func11 (c := mould_Write.code) rfl rfl rfl (by decide) mould_Write.ok (by decide)
  rw [mould_Write.eq] at h
  exact h
theorem mould_Write.sound : FnSound Try.prog 11 mould_Write.F := mould_Write.oa.1

/-! ### wainwright/mould.Read: function 15 -/
noncomputable def mould_Read.l2 : List UInt8 × List Int × Int × Int × List Int × Int × Int × List Int × Int × Int → Option (List UInt8 × List Int × Int × Int × List Int × Int × Int × List Int × Int × Int ⊕ (List UInt8 × List Int × Int × List Int × Int × Int)) := fun (s1, values7, i8, w9, t25, t26, t27, t35, t36, t37) =>
  if decide (t37 < t36) = true then
    if 0 ≤ t37 ∧ t37 < (t35.length : Int) then
      if 0 ≤ i8 ∧ i8 < (values7.length : Int) then
        if 0 ≤ IntKind.i64.wrap (8 * t37) then
          if 0 ≤ i8 ∧ i8 < (values7.length : Int) then
            some (.inl ((s1, values7.set i8.toNat (bitsOp .or .i64 (values7.getD i8.toNat 0) (IntKind.i64.wrap (IntKind.i64.wrap (t35.getD t37.toNat 0) * 2 ^ (min (IntKind.i64.wrap (8 * t37)).toNat 64)))), i8, w9, t25, t26, t27, t35, t36, IntKind.i64.wrap (t37 + 1))))
          else none
        else none
      else none
    else none
  else
    some (.inr ((s1, values7, w9, t25, t26, t27)))

noncomputable def mould_Read.l1 : List UInt8 × List Int × List Int × Int × Int → Option (List UInt8 × List Int × List Int × Int × Int ⊕ (List Int)) := fun (s1, values7, t25, t26, t27) =>
  if decide (t27 < t26) = true then
    if 0 ≤ t27 ∧ t27 < (t25.length : Int) then
      if 0 ≤ t25.getD t27.toNat 0 ∧ t25.getD t27.toNat 0 ≤ (s1.length : Int) then
        (loopO mould_Read.l2 ((s1, values7, t27, t25.getD t27.toNat 0, t25, t26, t27, (s1.take (t25.getD t27.toNat 0).toNat).map fun b => (b.toNat : Int), (((s1.take (t25.getD t27.toNat 0).toNat).map fun b => (b.toNat : Int)).length : Int), 0))).bind fun (s1, values7, w9, t25, t26, t27) =>
          if 0 ≤ w9 ∧ w9 ≤ (s1.length : Int) then
            some (.inl ((s1.drop w9.toNat, values7, t25, t26, IntKind.i64.wrap (t27 + 1))))
          else none
      else none
    else none
  else
    some (.inr values7)

noncomputable def mould_Read : List Int × List UInt8 → Option (List Int × Int) := fun (widths0, s1) =>
  (mould_Size widths0).bind fun r13 =>
  if decide (r13 < 0) = true then
    some (([], 1))
  else
    if decide ((s1.length : Int) < r13) = true then
      some (([], 2))
    else
      if 0 ≤ (widths0.length : Int) ∧ (widths0.length : Int) ≤ (widths0.length : Int) ∧ (widths0.length : Int) * (8 : Nat) ≤ 140737488355328 ∧ (widths0.length : Int) ≤ 9223372036854775807 then
        (loopO mould_Read.l1 ((s1, List.replicate ((widths0.length : Int)).toNat (0 : Int), widths0, (widths0.length : Int), 0))).bind fun values7 =>
          some ((values7, 0))
      else none

def mould_Read.ps : List Ty := [(.sl I), .str]
def mould_Read.rs : Spec := ⟨59, [], [(4, .v (.sl I)), (5, .v I)]⟩
noncomputable def mould_Read.F : Fun := mkFun [(.sl I), .str] ⟨59, [], [(4, .v (.sl I)), (5, .v I)]⟩ mould_Read
theorem mould_Read.nat : FunNat mould_Read.F := mkFun_nat _ _ _
noncomputable def mould_Read.ann : Ann :=
  (.seq (.reg []) (.seq (.reg [.std, .call 13 mould_Size.F]) (.seq (.block (.seq (.reg []) (.cond (.seq (.reg []) .std) (.seq (.reg []) (.cond (.seq (.reg []) .std) .std))))) (.seq (.reg [.std, .std, .obj I]) (.seq (.seq (.reg []) (.block (.loop ⟨59, [], [(1, .v .str), (7, .own (.arr I)), (25, .v (.sl I)), (26, .v I), (27, .v I)]⟩ [(.exit 1, ⟨59, [], [(7, .own (.arr I))]⟩)]
  (.seq (.reg []) (.seq (.cond .std .std) (.seq (.block (.seq (.reg []) (.seq (.seq (.reg [.std, .std, .std, .inl (.int .u8)]) (.block (.loop ⟨59, [], [(1, .v .str), (7, .own (.arr I)), (8, .v I), (9, .v I), (25, .v (.sl I)), (26, .v I), (27, .v I), (35, .v (.sl (.int .u8))), (36, .v I), (37, .v I)]⟩ [(.exit 3, ⟨59, [], [(1, .v .str), (7, .own (.arr I)), (9, .v I), (25, .v (.sl I)), (26, .v I), (27, .v I)]⟩)]
  (.seq (.reg []) (.seq (.cond .std .std) (.seq (.block (.seq (.reg []) (.drw [.std, .std, .std, .std, .std, .inl (.int .u8)]))) (.reg []))))))) (.reg [])))) (.reg []))))))) (.seq (.reg []) .std))))))
noncomputable def mould_Read.code : Code := match Try.f15.body with | some c => c | none => .skip
theorem mould_Read.eq : absFn tt 59 [(.sl I), .str] ⟨59, [], [(4, .v (.sl I)), (5, .v I)]⟩ mould_Read.code mould_Read.ann = mould_Read := by
  funext a
  kernel_rfl
theorem mould_Read.ok : mould_Read.ann.ok Try.prog 59 :=
  ann_ok (by kernel_rfl) (show ∀ h ∈ [OA.call 13 mould_Size.F], OAok Try.prog h ∧ h.nat from hs_cons mould_Size.oa mould_Size.nat hs_nil)
theorem mould_Read.oa : OAok Try.prog (.call 15 mould_Read.F) := by
  refine ⟨?_, Try.f15, mould_Read.code, Try.func15, rfl, by decide⟩
  have h := fn_sound tt_ok mix_ok (x := mould_Read.ann) (ps := [(.sl I), .str]) (rs := ⟨59, [], [(4, .v (.sl I)), (5, .v I)]⟩) (N := 59) Try.func15 (c := mould_Read.code) rfl rfl rfl (by decide) mould_Read.ok (by decide)
  rw [mould_Read.eq] at h
  exact h
theorem mould_Read.sound : FnSound Try.prog 15 mould_Read.F := mould_Read.oa.1

/-! ### wainwright/wainwrightlaw01.lives: function 10 -/
noncomputable def wainwrightlaw01_lives : Unit → Option (Bool) := fun _ =>
  (mould_Write (([1, 2] : List Int), ([5, 258] : List Int))).bind fun (r8_0, r8_1) =>
  (mould_Read (([1, 2] : List Int), ([5, 2, 1] : List UInt8))).bind fun (r13_0, r13_1) =>
  if (r8_1 == 0) = true then
    if (r8_0 == (([5, 2, 1] : List UInt8))) = true then
      if (r13_1 == 0) = true then
        if ((r13_0.length : Int) == 2) = true then
          if 0 ≤ (1 : Int) ∧ (1 : Int) < (r13_0.length : Int) then
            if (r13_0.getD 1 0 == 258) = true then
              (mould_Size ([4, 1] : List Int)).bind fun r39 =>
              some ((r39 == 5))
            else
              some false
          else none
        else
          some false
      else
        some false
    else
      some false
  else
    some false

def wainwrightlaw01_lives.ps : List Ty := []
def wainwrightlaw01_lives.rs : Spec := ⟨42, [], [(0, .v .bool)]⟩
noncomputable def wainwrightlaw01_lives.F : Fun := mkFun [] ⟨42, [], [(0, .v .bool)]⟩ wainwrightlaw01_lives
theorem wainwrightlaw01_lives.nat : FunNat wainwrightlaw01_lives.F := mkFun_nat _ _ _
noncomputable def wainwrightlaw01_lives.ann : Ann :=
  (.seq (.reg []) (.seq (.reg [.inl I, .inl I, .call 11 mould_Write.F]) (.seq (.reg [.inl I, .call 15 mould_Read.F]) (.seq (.reg [.std, .std, .std, .std, .std, .std, .std, .std, .std, .std, .std, .std, .std, .std, .std, .std, .std, .std, .std, .std, .std, .std, .inl I, .call 13 mould_Size.F]) .std))))
noncomputable def wainwrightlaw01_lives.code : Code := match Try.f10.body with | some c => c | none => .skip
theorem wainwrightlaw01_lives.eq : absFn tt 42 [] ⟨42, [], [(0, .v .bool)]⟩ wainwrightlaw01_lives.code wainwrightlaw01_lives.ann = wainwrightlaw01_lives := by
  funext a
  kernel_rfl
theorem wainwrightlaw01_lives.ok : wainwrightlaw01_lives.ann.ok Try.prog 42 :=
  ann_ok (by kernel_rfl) (show ∀ h ∈ [OA.call 11 mould_Write.F, OA.call 15 mould_Read.F, OA.call 13 mould_Size.F], OAok Try.prog h ∧ h.nat from hs_cons mould_Write.oa mould_Write.nat (hs_cons mould_Read.oa mould_Read.nat (hs_cons mould_Size.oa mould_Size.nat hs_nil)))
theorem wainwrightlaw01_lives.oa : OAok Try.prog (.call 10 wainwrightlaw01_lives.F) := by
  refine ⟨?_, Try.f10, wainwrightlaw01_lives.code, Try.func10, rfl, by decide⟩
  have h := fn_sound tt_ok mix_ok (x := wainwrightlaw01_lives.ann) (ps := []) (rs := ⟨42, [], [(0, .v .bool)]⟩) (N := 42) Try.func10 (c := wainwrightlaw01_lives.code) rfl rfl rfl (by decide) wainwrightlaw01_lives.ok (by decide)
  rw [wainwrightlaw01_lives.eq] at h
  exact h
theorem wainwrightlaw01_lives.sound : FnSound Try.prog 10 wainwrightlaw01_lives.F := wainwrightlaw01_lives.oa.1

/-! ### wainwright/wainwrightref01.Size: function 14 -/
noncomputable def wainwrightref01_Size.l1 : List Int × Int × Int → Option (List Int × Int × Int ⊕ Int ⊕ Int) := fun (widths0, n3, i4) =>
  if decide (i4 < (widths0.length : Int)) = true then
    if 0 ≤ i4 ∧ i4 < (widths0.length : Int) then
      if (widths0.getD i4.toNat 0 != 1) = true then
        if 0 ≤ i4 ∧ i4 < (widths0.length : Int) then
          if (widths0.getD i4.toNat 0 != 2) = true then
            if 0 ≤ i4 ∧ i4 < (widths0.length : Int) then
              if (widths0.getD i4.toNat 0 != 4) = true then
                some (.inr (.inr (-1)))
              else
                if 0 ≤ i4 ∧ i4 < (widths0.length : Int) then
                  some (.inl ((widths0, IntKind.i64.wrap (n3 + (widths0.getD i4.toNat 0)), IntKind.i64.wrap (i4 + 1))))
                else none
            else none
          else
            if 0 ≤ i4 ∧ i4 < (widths0.length : Int) then
              some (.inl ((widths0, IntKind.i64.wrap (n3 + (widths0.getD i4.toNat 0)), IntKind.i64.wrap (i4 + 1))))
            else none
        else none
      else
        if 0 ≤ i4 ∧ i4 < (widths0.length : Int) then
          some (.inl ((widths0, IntKind.i64.wrap (n3 + (widths0.getD i4.toNat 0)), IntKind.i64.wrap (i4 + 1))))
        else none
    else none
  else
    some (.inr (.inl n3))

noncomputable def wainwrightref01_Size : List Int → Option (Int) := fun widths0 =>
  (loopO wainwrightref01_Size.l1 ((widths0, 0, 0))).bind fun d => match d with
  | .inl n3 =>
    some n3
  | .inr t2 =>
    some t2

def wainwrightref01_Size.ps : List Ty := [(.sl I)]
def wainwrightref01_Size.rs : Spec := ⟨37, [], [(2, .v I)]⟩
noncomputable def wainwrightref01_Size.F : Fun := mkFun [(.sl I)] ⟨37, [], [(2, .v I)]⟩ wainwrightref01_Size
theorem wainwrightref01_Size.nat : FunNat wainwrightref01_Size.F := mkFun_nat _ _ _
noncomputable def wainwrightref01_Size.ann : Ann :=
  (.seq (.reg []) (.seq (.reg []) (.seq (.seq (.reg []) (.block (.loop ⟨37, [], [(0, .v (.sl I)), (3, .v I), (4, .v I)]⟩ [(.exit 0, ⟨37, [], [(3, .v I)]⟩), (.ret, ⟨37, [], [(2, .v I)]⟩)]
  (.seq (.seq (.reg []) (.cond .std .std)) (.seq (.block (.seq (.seq (.reg []) (.cond (.seq (.reg []) .std) .std)) (.reg []))) (.reg [])))))) (.seq (.reg []) .std))))
noncomputable def wainwrightref01_Size.code : Code := match Try.f14.body with | some c => c | none => .skip
theorem wainwrightref01_Size.eq : absFn tt 37 [(.sl I)] ⟨37, [], [(2, .v I)]⟩ wainwrightref01_Size.code wainwrightref01_Size.ann = wainwrightref01_Size := by
  funext a
  kernel_rfl
theorem wainwrightref01_Size.ok : wainwrightref01_Size.ann.ok Try.prog 37 :=
  ann_ok (by kernel_rfl) (show ∀ h ∈ [], OAok Try.prog h ∧ h.nat from hs_nil)
theorem wainwrightref01_Size.oa : OAok Try.prog (.call 14 wainwrightref01_Size.F) := by
  refine ⟨?_, Try.f14, wainwrightref01_Size.code, Try.func14, rfl, by decide⟩
  have h := fn_sound tt_ok mix_ok (x := wainwrightref01_Size.ann) (ps := [(.sl I)]) (rs := ⟨37, [], [(2, .v I)]⟩) (N := 37) Try.func14 (c := wainwrightref01_Size.code) rfl rfl rfl (by decide) wainwrightref01_Size.ok (by decide)
  rw [wainwrightref01_Size.eq] at h
  exact h
theorem wainwrightref01_Size.sound : FnSound Try.prog 14 wainwrightref01_Size.F := wainwrightref01_Size.oa.1

/-! ### wainwright/wainwrightref01.most: function 28 -/
noncomputable def wainwrightref01_most : Int → Option (Int) := fun width0 =>
  if (width0 == 1) = true then
    some 255
  else
    if (width0 == 2) = true then
      some 65535
    else
      some 4294967295

def wainwrightref01_most.ps : List Ty := [I]
def wainwrightref01_most.rs : Spec := ⟨7, [], [(2, .v I)]⟩
noncomputable def wainwrightref01_most.F : Fun := mkFun [I] ⟨7, [], [(2, .v I)]⟩ wainwrightref01_most
theorem wainwrightref01_most.nat : FunNat wainwrightref01_most.F := mkFun_nat _ _ _
noncomputable def wainwrightref01_most.ann : Ann :=
  (.seq (.reg []) (.seq (.seq (.reg []) (.cond (.seq (.reg []) .std) .std)) (.seq (.seq (.reg []) (.cond (.seq (.reg []) .std) .std)) (.seq (.reg []) .std))))
noncomputable def wainwrightref01_most.code : Code := match Try.f28.body with | some c => c | none => .skip
theorem wainwrightref01_most.eq : absFn tt 7 [I] ⟨7, [], [(2, .v I)]⟩ wainwrightref01_most.code wainwrightref01_most.ann = wainwrightref01_most := by
  funext a
  kernel_rfl
theorem wainwrightref01_most.ok : wainwrightref01_most.ann.ok Try.prog 7 :=
  ann_ok (by kernel_rfl) (show ∀ h ∈ [], OAok Try.prog h ∧ h.nat from hs_nil)
theorem wainwrightref01_most.oa : OAok Try.prog (.call 28 wainwrightref01_most.F) := by
  refine ⟨?_, Try.f28, wainwrightref01_most.code, Try.func28, rfl, by decide⟩
  have h := fn_sound tt_ok mix_ok (x := wainwrightref01_most.ann) (ps := [I]) (rs := ⟨7, [], [(2, .v I)]⟩) (N := 7) Try.func28 (c := wainwrightref01_most.code) rfl rfl rfl (by decide) wainwrightref01_most.ok (by decide)
  rw [wainwrightref01_most.eq] at h
  exact h
theorem wainwrightref01_most.sound : FnSound Try.prog 28 wainwrightref01_most.F := wainwrightref01_most.oa.1

/-! ### wainwright/wainwrightref01.Write: function 12 -/
noncomputable def wainwrightref01_Write.l2 : List Int × List Int × List Int × Int × Int × Int → Option (List Int × List Int × List Int × Int × Int × Int ⊕ (List Int × List Int × List Int × Int)) := fun (widths0, values1, out6, i7, v8, k9) =>
  if 0 ≤ i7 ∧ i7 < (widths0.length : Int) then
    if decide (k9 < widths0.getD i7.toNat 0) = true then
      if roomOk (out6.length + (([IntKind.u8.wrap (Int.tmod v8 256)] : List Int)).length) 1 then
        some (.inl ((widths0, values1, out6 ++ (([IntKind.u8.wrap (Int.tmod v8 256)] : List Int)), i7, IntKind.i64.wrap (Int.tdiv v8 256), IntKind.i64.wrap (k9 + 1))))
      else none
    else
      some (.inr ((widths0, values1, out6, i7)))
  else none

noncomputable def wainwrightref01_Write.l1 : List Int × List Int × List Int × Int → Option (List Int × List Int × List Int × Int ⊕ (List Int) ⊕ (List UInt8 × Int)) := fun (widths0, values1, out6, i7) =>
  if decide (i7 < (widths0.length : Int)) = true then
    if 0 ≤ i7 ∧ i7 < (values1.length : Int) then
      if decide (values1.getD i7.toNat 0 < 0) = false then
        if 0 ≤ i7 ∧ i7 < (values1.length : Int) then
          if 0 ≤ i7 ∧ i7 < (widths0.length : Int) then
            (wainwrightref01_most (widths0.getD i7.toNat 0)).bind fun r40 =>
            if decide (values1.getD i7.toNat 0 > r40) = true then
              some (.inr (.inr ((([], 3)))))
            else
              if 0 ≤ i7 ∧ i7 < (values1.length : Int) then
                (loopO wainwrightref01_Write.l2 ((widths0, values1, out6, i7, values1.getD i7.toNat 0, 0))).bind fun (widths0, values1, out6, i7) =>
                  some (.inl ((widths0, values1, out6, IntKind.i64.wrap (i7 + 1))))
              else none
          else none
        else none
      else
        some (.inr (.inr ((([], 3)))))
    else none
  else
    some (.inr (.inl out6))

noncomputable def wainwrightref01_Write : List Int × List Int → Option (List UInt8 × Int) := fun (widths0, values1) =>
  (wainwrightref01_Size widths0).bind fun r11 =>
  if decide (r11 < 0) = false then
    if ((widths0.length : Int) != (values1.length : Int)) = true then
      some (([], 1))
    else
      (loopO wainwrightref01_Write.l1 ((widths0, values1, [], 0))).bind fun d => match d with
      | .inl out6 =>
        some ((out6.map fun (n : Int) => UInt8.ofNat n.toNat, 0))
      | .inr ((t4, t5)) =>
        some ((t4, t5))
  else
    some (([], 1))

def wainwrightref01_Write.ps : List Ty := [(.sl I), (.sl I)]
def wainwrightref01_Write.rs : Spec := ⟨65, [], [(4, .v .str), (5, .v I)]⟩
noncomputable def wainwrightref01_Write.F : Fun := mkFun [(.sl I), (.sl I)] ⟨65, [], [(4, .v .str), (5, .v I)]⟩ wainwrightref01_Write
theorem wainwrightref01_Write.nat : FunNat wainwrightref01_Write.F := mkFun_nat _ _ _
noncomputable def wainwrightref01_Write.ann : Ann :=
  (.seq (.reg []) (.seq (.seq (.reg [.std, .call 14 wainwrightref01_Size.F]) (.cond (.seq (.reg []) .std) .std)) (.seq (.reg []) (.seq (.seq (.reg []) (.block (.loop ⟨65, [], [(0, .v (.sl I)), (1, .v (.sl I)), (6, .own (.arr (.int .u8))), (7, .v I)]⟩ [(.exit 0, ⟨65, [], [(6, .own (.arr (.int .u8)))]⟩), (.ret, ⟨65, [], [(4, .v .str), (5, .v I)]⟩)]
  (.seq (.seq (.reg []) (.cond .std .std)) (.seq (.block (.seq (.seq (.drw [.std, .std, .std, .std, .std, .std, .std, .std, .std, .std, .std, .std, .std, .std, .call 28 wainwrightref01_most.F]) (.cond (.seq (.reg []) .std) .std)) (.seq (.reg []) (.seq (.reg []) (.block (.loop ⟨65, [], [(0, .v (.sl I)), (1, .v (.sl I)), (6, .own (.arr (.int .u8))), (7, .v I), (8, .v I), (9, .v I)]⟩ [(.exit 2, ⟨65, [], [(0, .v (.sl I)), (1, .v (.sl I)), (6, .own (.arr (.int .u8))), (7, .v I)]⟩)]
  (.seq (.seq (.reg []) (.cond .std .std)) (.seq (.block (.seq (.reg [.std, .std, .std, .std, .inl (.int .u8), .obj (.int .u8)]) (.reg []))) (.reg []))))))))) (.reg [])))))) (.seq (.reg []) .std)))))
noncomputable def wainwrightref01_Write.code : Code := match Try.f12.body with | some c => c | none => .skip
theorem wainwrightref01_Write.eq : absFn tt 65 [(.sl I), (.sl I)] ⟨65, [], [(4, .v .str), (5, .v I)]⟩ wainwrightref01_Write.code wainwrightref01_Write.ann = wainwrightref01_Write := by
  funext a
  kernel_rfl
theorem wainwrightref01_Write.ok : wainwrightref01_Write.ann.ok Try.prog 65 :=
  ann_ok (by kernel_rfl) (show ∀ h ∈ [OA.call 14 wainwrightref01_Size.F, OA.call 28 wainwrightref01_most.F], OAok Try.prog h ∧ h.nat from hs_cons wainwrightref01_Size.oa wainwrightref01_Size.nat (hs_cons wainwrightref01_most.oa wainwrightref01_most.nat hs_nil))
theorem wainwrightref01_Write.oa : OAok Try.prog (.call 12 wainwrightref01_Write.F) := by
  refine ⟨?_, Try.f12, wainwrightref01_Write.code, Try.func12, rfl, by decide⟩
  have h := fn_sound tt_ok mix_ok (x := wainwrightref01_Write.ann) (ps := [(.sl I), (.sl I)]) (rs := ⟨65, [], [(4, .v .str), (5, .v I)]⟩) (N := 65) Try.func12 (c := wainwrightref01_Write.code) rfl rfl rfl (by decide) wainwrightref01_Write.ok (by decide)
  rw [wainwrightref01_Write.eq] at h
  exact h
theorem wainwrightref01_Write.sound : FnSound Try.prog 12 wainwrightref01_Write.F := wainwrightref01_Write.oa.1

/-! ### wainwright/wainwrightlaw01.MouldWrites: function 3 -/
noncomputable def wainwrightlaw01_MouldWrites : List Int × List Int → Option (Bool) := fun (widths0, values1) =>
  (wainwrightlaw01_lives ()).bind fun r9 =>
  if (!r9) = true then
    some false
  else
    (mould_Write (widths0, values1)).bind fun (r14_0, r14_1) =>
    (wainwrightref01_Write (widths0, values1)).bind fun (r20_0, r20_1) =>
    if (r14_0 == r20_0) = true then
      if (r14_1 == r20_1) = true then
        (mould_Size widths0).bind fun r33 =>
        (wainwrightref01_Size widths0).bind fun r35 =>
        some ((r33 == r35))
      else
        some false
    else
      some false

def wainwrightlaw01_MouldWrites.ps : List Ty := [(.sl I), (.sl I)]
def wainwrightlaw01_MouldWrites.rs : Spec := ⟨38, [], [(4, .v .bool)]⟩
noncomputable def wainwrightlaw01_MouldWrites.F : Fun := mkFun [(.sl I), (.sl I)] ⟨38, [], [(4, .v .bool)]⟩ wainwrightlaw01_MouldWrites
theorem wainwrightlaw01_MouldWrites.nat : FunNat wainwrightlaw01_MouldWrites.F := mkFun_nat _ _ _
noncomputable def wainwrightlaw01_MouldWrites.ann : Ann :=
  (.seq (.reg []) (.seq (.seq (.reg [.call 10 wainwrightlaw01_lives.F]) (.cond (.seq (.reg []) .std) .std)) (.seq (.reg [.std, .std, .call 11 mould_Write.F]) (.seq (.reg [.std, .std, .call 12 wainwrightref01_Write.F]) (.seq (.reg [.std, .std, .std, .std, .std, .std, .std, .std, .std, .std, .call 13 mould_Size.F, .std, .call 14 wainwrightref01_Size.F]) .std)))))
noncomputable def wainwrightlaw01_MouldWrites.code : Code := match Try.f3.body with | some c => c | none => .skip
theorem wainwrightlaw01_MouldWrites.eq : absFn tt 38 [(.sl I), (.sl I)] ⟨38, [], [(4, .v .bool)]⟩ wainwrightlaw01_MouldWrites.code wainwrightlaw01_MouldWrites.ann = wainwrightlaw01_MouldWrites := by
  funext a
  kernel_rfl
theorem wainwrightlaw01_MouldWrites.ok : wainwrightlaw01_MouldWrites.ann.ok Try.prog 38 :=
  ann_ok (by kernel_rfl) (show ∀ h ∈ [OA.call 10 wainwrightlaw01_lives.F, OA.call 11 mould_Write.F, OA.call 12 wainwrightref01_Write.F, OA.call 13 mould_Size.F, OA.call 14 wainwrightref01_Size.F], OAok Try.prog h ∧ h.nat from hs_cons wainwrightlaw01_lives.oa wainwrightlaw01_lives.nat (hs_cons mould_Write.oa mould_Write.nat (hs_cons wainwrightref01_Write.oa wainwrightref01_Write.nat (hs_cons mould_Size.oa mould_Size.nat (hs_cons wainwrightref01_Size.oa wainwrightref01_Size.nat hs_nil)))))
theorem wainwrightlaw01_MouldWrites.oa : OAok Try.prog (.call 3 wainwrightlaw01_MouldWrites.F) := by
  refine ⟨?_, Try.f3, wainwrightlaw01_MouldWrites.code, Try.func3, rfl, by decide⟩
  have h := fn_sound tt_ok mix_ok (x := wainwrightlaw01_MouldWrites.ann) (ps := [(.sl I), (.sl I)]) (rs := ⟨38, [], [(4, .v .bool)]⟩) (N := 38) Try.func3 (c := wainwrightlaw01_MouldWrites.code) rfl rfl rfl (by decide) wainwrightlaw01_MouldWrites.ok (by decide)
  rw [wainwrightlaw01_MouldWrites.eq] at h
  exact h
theorem wainwrightlaw01_MouldWrites.sound : FnSound Try.prog 3 wainwrightlaw01_MouldWrites.F := wainwrightlaw01_MouldWrites.oa.1

/-! ### wainwright/wainwrightref01.Read: function 16 -/
noncomputable def wainwrightref01_Read.l2 : List Int × List UInt8 × List Int × Int × Int × Int × Int → Option (List Int × List UInt8 × List Int × Int × Int × Int × Int ⊕ (List Int × List UInt8 × List Int × Int × Int × Int)) := fun (widths0, s1, out6, at7, i8, v9, k10) =>
  if decide (k10 ≥ 0) = true then
    if 0 ≤ IntKind.i64.wrap (at7 + k10) ∧ IntKind.i64.wrap (at7 + k10) < (s1.length : Int) then
      some (.inl ((widths0, s1, out6, at7, i8, IntKind.i64.wrap ((IntKind.i64.wrap (256 * v9)) + (IntKind.i64.wrap (((s1.getD ((IntKind.i64.wrap (at7 + k10)).toNat) 0).toNat : Int)))), IntKind.i64.wrap (k10 - 1))))
    else none
  else
    some (.inr ((widths0, s1, out6, at7, i8, v9)))

noncomputable def wainwrightref01_Read.l1 : List Int × List UInt8 × List Int × Int × Int → Option (List Int × List UInt8 × List Int × Int × Int ⊕ (List Int)) := fun (widths0, s1, out6, at7, i8) =>
  if decide (i8 < (widths0.length : Int)) = true then
    if 0 ≤ i8 ∧ i8 < (widths0.length : Int) then
      (loopO wainwrightref01_Read.l2 ((widths0, s1, out6, at7, i8, 0, IntKind.i64.wrap ((widths0.getD i8.toNat 0) - 1)))).bind fun (widths0, s1, out6, at7, i8, v9) =>
        if roomOk (out6.length + (([v9] : List Int)).length) 8 then
          if 0 ≤ i8 ∧ i8 < (widths0.length : Int) then
            some (.inl ((widths0, s1, out6 ++ (([v9] : List Int)), IntKind.i64.wrap (at7 + (widths0.getD i8.toNat 0)), IntKind.i64.wrap (i8 + 1))))
          else none
        else none
    else none
  else
    some (.inr out6)

noncomputable def wainwrightref01_Read : List Int × List UInt8 → Option (List Int × Int) := fun (widths0, s1) =>
  (wainwrightref01_Size widths0).bind fun r12 =>
  if decide (r12 < 0) = true then
    some (([], 1))
  else
    (wainwrightref01_Size widths0).bind fun r17 =>
    if decide ((s1.length : Int) < r17) = true then
      some (([], 2))
    else
      (loopO wainwrightref01_Read.l1 ((widths0, s1, [], 0, 0))).bind fun out6 =>
        some ((out6, 0))

def wainwrightref01_Read.ps : List Ty := [(.sl I), .str]
def wainwrightref01_Read.rs : Spec := ⟨54, [], [(4, .v (.sl I)), (5, .v I)]⟩
noncomputable def wainwrightref01_Read.F : Fun := mkFun [(.sl I), .str] ⟨54, [], [(4, .v (.sl I)), (5, .v I)]⟩ wainwrightref01_Read
theorem wainwrightref01_Read.nat : FunNat wainwrightref01_Read.F := mkFun_nat _ _ _
noncomputable def wainwrightref01_Read.ann : Ann :=
  (.seq (.reg []) (.seq (.seq (.reg [.std, .call 14 wainwrightref01_Size.F]) (.cond (.seq (.reg []) .std) .std)) (.seq (.seq (.reg [.std, .std, .std, .call 14 wainwrightref01_Size.F]) (.cond (.seq (.reg []) .std) .std)) (.seq (.reg []) (.seq (.reg []) (.seq (.seq (.reg []) (.block (.loop ⟨54, [], [(0, .v (.sl I)), (1, .v .str), (6, .own (.arr I)), (7, .v I), (8, .v I)]⟩ [(.exit 0, ⟨54, [], [(6, .own (.arr I))]⟩)]
  (.seq (.seq (.reg []) (.cond .std .std)) (.seq (.block (.seq (.reg []) (.seq (.seq (.reg []) (.block (.loop ⟨54, [], [(0, .v (.sl I)), (1, .v .str), (6, .own (.arr I)), (7, .v I), (8, .v I), (9, .v I), (10, .v I)]⟩ [(.exit 2, ⟨54, [], [(0, .v (.sl I)), (1, .v .str), (6, .own (.arr I)), (7, .v I), (8, .v I), (9, .v I)]⟩)]
  (.seq (.seq (.reg []) (.cond .std .std)) (.seq (.block (.reg [])) (.reg [])))))) (.seq (.reg [.std, .std, .inl I, .obj I]) (.reg []))))) (.reg [])))))) (.seq (.reg []) .std)))))))
noncomputable def wainwrightref01_Read.code : Code := match Try.f16.body with | some c => c | none => .skip
theorem wainwrightref01_Read.eq : absFn tt 54 [(.sl I), .str] ⟨54, [], [(4, .v (.sl I)), (5, .v I)]⟩ wainwrightref01_Read.code wainwrightref01_Read.ann = wainwrightref01_Read := by
  funext a
  kernel_rfl
theorem wainwrightref01_Read.ok : wainwrightref01_Read.ann.ok Try.prog 54 :=
  ann_ok (by kernel_rfl) (show ∀ h ∈ [OA.call 14 wainwrightref01_Size.F, OA.call 14 wainwrightref01_Size.F], OAok Try.prog h ∧ h.nat from hs_cons wainwrightref01_Size.oa wainwrightref01_Size.nat (hs_cons wainwrightref01_Size.oa wainwrightref01_Size.nat hs_nil))
theorem wainwrightref01_Read.oa : OAok Try.prog (.call 16 wainwrightref01_Read.F) := by
  refine ⟨?_, Try.f16, wainwrightref01_Read.code, Try.func16, rfl, by decide⟩
  have h := fn_sound tt_ok mix_ok (x := wainwrightref01_Read.ann) (ps := [(.sl I), .str]) (rs := ⟨54, [], [(4, .v (.sl I)), (5, .v I)]⟩) (N := 54) Try.func16 (c := wainwrightref01_Read.code) rfl rfl rfl (by decide) wainwrightref01_Read.ok (by decide)
  rw [wainwrightref01_Read.eq] at h
  exact h
theorem wainwrightref01_Read.sound : FnSound Try.prog 16 wainwrightref01_Read.F := wainwrightref01_Read.oa.1

/-! ### wainwright/wainwrightref01.Same: function 17 -/
noncomputable def wainwrightref01_Same.l1 : List Int × List Int × Int → Option (List Int × List Int × Int ⊕ Unit ⊕ Bool) := fun (a0, b1, i5) =>
  if decide (i5 < (a0.length : Int)) = true then
    if 0 ≤ i5 ∧ i5 < (a0.length : Int) then
      if 0 ≤ i5 ∧ i5 < (b1.length : Int) then
        if (a0.getD i5.toNat 0 != b1.getD i5.toNat 0) = true then
          some (.inr (.inr false))
        else
          some (.inl ((a0, b1, IntKind.i64.wrap (i5 + 1))))
      else none
    else none
  else
    some (.inr (.inl ()))

noncomputable def wainwrightref01_Same : List Int × List Int → Option (Bool) := fun (a0, b1) =>
  if ((a0.length : Int) != (b1.length : Int)) = true then
    some false
  else
    (loopO wainwrightref01_Same.l1 ((a0, b1, 0))).bind fun d => match d with
    | .inl _ =>
      some true
    | .inr t4 =>
      some t4

def wainwrightref01_Same.ps : List Ty := [(.sl I), (.sl I)]
def wainwrightref01_Same.rs : Spec := ⟨26, [], [(4, .v .bool)]⟩
noncomputable def wainwrightref01_Same.F : Fun := mkFun [(.sl I), (.sl I)] ⟨26, [], [(4, .v .bool)]⟩ wainwrightref01_Same
theorem wainwrightref01_Same.nat : FunNat wainwrightref01_Same.F := mkFun_nat _ _ _
noncomputable def wainwrightref01_Same.ann : Ann :=
  (.seq (.reg []) (.seq (.seq (.reg []) (.cond (.seq (.reg []) .std) .std)) (.seq (.seq (.reg []) (.block (.loop ⟨26, [], [(0, .v (.sl I)), (1, .v (.sl I)), (5, .v I)]⟩ [(.exit 0, ⟨26, [], []⟩), (.ret, ⟨26, [], [(4, .v .bool)]⟩)]
  (.seq (.seq (.reg []) (.cond .std .std)) (.seq (.block (.seq (.drw []) (.cond (.seq (.reg []) .std) .std))) (.reg [])))))) (.seq (.reg []) .std))))
noncomputable def wainwrightref01_Same.code : Code := match Try.f17.body with | some c => c | none => .skip
theorem wainwrightref01_Same.eq : absFn tt 26 [(.sl I), (.sl I)] ⟨26, [], [(4, .v .bool)]⟩ wainwrightref01_Same.code wainwrightref01_Same.ann = wainwrightref01_Same := by
  funext a
  kernel_rfl
theorem wainwrightref01_Same.ok : wainwrightref01_Same.ann.ok Try.prog 26 :=
  ann_ok (by kernel_rfl) (show ∀ h ∈ [], OAok Try.prog h ∧ h.nat from hs_nil)
theorem wainwrightref01_Same.oa : OAok Try.prog (.call 17 wainwrightref01_Same.F) := by
  refine ⟨?_, Try.f17, wainwrightref01_Same.code, Try.func17, rfl, by decide⟩
  have h := fn_sound tt_ok mix_ok (x := wainwrightref01_Same.ann) (ps := [(.sl I), (.sl I)]) (rs := ⟨26, [], [(4, .v .bool)]⟩) (N := 26) Try.func17 (c := wainwrightref01_Same.code) rfl rfl rfl (by decide) wainwrightref01_Same.ok (by decide)
  rw [wainwrightref01_Same.eq] at h
  exact h
theorem wainwrightref01_Same.sound : FnSound Try.prog 17 wainwrightref01_Same.F := wainwrightref01_Same.oa.1

/-! ### wainwright/wainwrightlaw01.MouldReads: function 4 -/
noncomputable def wainwrightlaw01_MouldReads : List Int × List UInt8 → Option (Bool) := fun (widths0, s1) =>
  (wainwrightlaw01_lives ()).bind fun r9 =>
  if (!r9) = true then
    some false
  else
    (mould_Read (widths0, s1)).bind fun (r14_0, r14_1) =>
    (wainwrightref01_Read (widths0, s1)).bind fun (r20_0, r20_1) =>
    if (r14_1 == r20_1) = true then
      (wainwrightref01_Same (r14_0, r20_0)).bind fun r29 =>
      some r29
    else
      some false

def wainwrightlaw01_MouldReads.ps : List Ty := [(.sl I), .str]
def wainwrightlaw01_MouldReads.rs : Spec := ⟨31, [], [(4, .v .bool)]⟩
noncomputable def wainwrightlaw01_MouldReads.F : Fun := mkFun [(.sl I), .str] ⟨31, [], [(4, .v .bool)]⟩ wainwrightlaw01_MouldReads
theorem wainwrightlaw01_MouldReads.nat : FunNat wainwrightlaw01_MouldReads.F := mkFun_nat _ _ _
noncomputable def wainwrightlaw01_MouldReads.ann : Ann :=
  (.seq (.reg []) (.seq (.seq (.reg [.call 10 wainwrightlaw01_lives.F]) (.cond (.seq (.reg []) .std) .std)) (.seq (.reg [.std, .std, .call 15 mould_Read.F]) (.seq (.reg [.std, .std, .call 16 wainwrightref01_Read.F]) (.seq (.reg [.std, .std, .std, .std, .std, .std, .call 17 wainwrightref01_Same.F]) .std)))))
noncomputable def wainwrightlaw01_MouldReads.code : Code := match Try.f4.body with | some c => c | none => .skip
theorem wainwrightlaw01_MouldReads.eq : absFn tt 31 [(.sl I), .str] ⟨31, [], [(4, .v .bool)]⟩ wainwrightlaw01_MouldReads.code wainwrightlaw01_MouldReads.ann = wainwrightlaw01_MouldReads := by
  funext a
  kernel_rfl
theorem wainwrightlaw01_MouldReads.ok : wainwrightlaw01_MouldReads.ann.ok Try.prog 31 :=
  ann_ok (by kernel_rfl) (show ∀ h ∈ [OA.call 10 wainwrightlaw01_lives.F, OA.call 15 mould_Read.F, OA.call 16 wainwrightref01_Read.F, OA.call 17 wainwrightref01_Same.F], OAok Try.prog h ∧ h.nat from hs_cons wainwrightlaw01_lives.oa wainwrightlaw01_lives.nat (hs_cons mould_Read.oa mould_Read.nat (hs_cons wainwrightref01_Read.oa wainwrightref01_Read.nat (hs_cons wainwrightref01_Same.oa wainwrightref01_Same.nat hs_nil))))
theorem wainwrightlaw01_MouldReads.oa : OAok Try.prog (.call 4 wainwrightlaw01_MouldReads.F) := by
  refine ⟨?_, Try.f4, wainwrightlaw01_MouldReads.code, Try.func4, rfl, by decide⟩
  have h := fn_sound tt_ok mix_ok (x := wainwrightlaw01_MouldReads.ann) (ps := [(.sl I), .str]) (rs := ⟨31, [], [(4, .v .bool)]⟩) (N := 31) Try.func4 (c := wainwrightlaw01_MouldReads.code) rfl rfl rfl (by decide) wainwrightlaw01_MouldReads.ok (by decide)
  rw [wainwrightlaw01_MouldReads.eq] at h
  exact h
theorem wainwrightlaw01_MouldReads.sound : FnSound Try.prog 4 wainwrightlaw01_MouldReads.F := wainwrightlaw01_MouldReads.oa.1

/-! ### wainwright/wainwrightlaw01.MouldBack: function 5 -/
noncomputable def wainwrightlaw01_MouldBack : List Int × List Int × List UInt8 → Option (Bool) := fun (widths0, values1, more2) =>
  (wainwrightlaw01_lives ()).bind fun r15 =>
  if (!r15) = true then
    some false
  else
    (mould_Write (widths0, values1)).bind fun (r20_0, r20_1) =>
    if r20_0.length + more2.length ≤ 9223372036854775807 then
      (mould_Read (widths0, r20_0 ++ more2)).bind fun (r28_0, r28_1) =>
      ((
        if (r20_1 == 0) = true then
          if (r28_1 != 0) = false then
            (wainwrightref01_Same (r28_0, values1)).bind fun r39 =>
            if (!r39) = false then
              (mould_Size widths0).bind fun r46 =>
              if ((r20_0.length : Int) != r46) = true then
                some (.inr false)
              else
                some (.inl ((widths0, more2)))
            else
              some (.inr false)
          else
            some (.inr false)
        else
          some (.inl ((widths0, more2)))) : Option ((List Int × List UInt8) ⊕ Bool)).bind fun d => match d with
      | .inl (widths0, more2) =>
        (mould_Read (widths0, more2)).bind fun (r53_0, r53_1) =>
        (mould_Write (widths0, r53_0)).bind fun (r59_0, r59_1) =>
        if (r53_1 != 0) = false then
          if (r59_1 == 0) = true then
            if decide ((r59_0.length : Int) ≤ (more2.length : Int)) = true then
              if 0 ≤ (r59_0.length : Int) ∧ (r59_0.length : Int) ≤ (more2.length : Int) then
                some ((r59_0 == (more2.take ((r59_0.length : Int)).toNat)))
              else none
            else
              some false
          else
            some false
        else
          some true
      | .inr t6 =>
        some t6
    else none

def wainwrightlaw01_MouldBack.ps : List Ty := [(.sl I), (.sl I), .str]
def wainwrightlaw01_MouldBack.rs : Spec := ⟨83, [], [(6, .v .bool)]⟩
noncomputable def wainwrightlaw01_MouldBack.F : Fun := mkFun [(.sl I), (.sl I), .str] ⟨83, [], [(6, .v .bool)]⟩ wainwrightlaw01_MouldBack
theorem wainwrightlaw01_MouldBack.nat : FunNat wainwrightlaw01_MouldBack.F := mkFun_nat _ _ _
noncomputable def wainwrightlaw01_MouldBack.ann : Ann :=
  (.seq (.reg []) (.seq (.seq (.reg [.call 10 wainwrightlaw01_lives.F]) (.cond (.seq (.reg []) .std) .std)) (.seq (.reg [.std, .std, .call 11 mould_Write.F]) (.seq (.reg [.std, .std, .std, .std, .call 15 mould_Read.F]) (.join [(.norm, ⟨83, [], [(0, .v (.sl I)), (2, .v .str)]⟩), (.ret, ⟨83, [], [(6, .v .bool)]⟩)]
  (.seq (.reg [.std, .std, .std, .std, .std, .std, .std, .std, .call 17 wainwrightref01_Same.F, .std, .std, .std, .std, .std, .std, .call 13 mould_Size.F]) (.cond (.seq (.reg []) .std) .std)) (.seq (.reg [.std, .std, .call 15 mould_Read.F]) (.seq (.reg [.std, .std, .call 11 mould_Write.F]) (.seq (.reg []) .std))))))))
noncomputable def wainwrightlaw01_MouldBack.code : Code := match Try.f5.body with | some c => c | none => .skip
theorem wainwrightlaw01_MouldBack.eq : absFn tt 83 [(.sl I), (.sl I), .str] ⟨83, [], [(6, .v .bool)]⟩ wainwrightlaw01_MouldBack.code wainwrightlaw01_MouldBack.ann = wainwrightlaw01_MouldBack := by
  funext a
  kernel_rfl
theorem wainwrightlaw01_MouldBack.ok : wainwrightlaw01_MouldBack.ann.ok Try.prog 83 :=
  ann_ok (by kernel_rfl) (show ∀ h ∈ [OA.call 10 wainwrightlaw01_lives.F, OA.call 11 mould_Write.F, OA.call 15 mould_Read.F, OA.call 17 wainwrightref01_Same.F, OA.call 13 mould_Size.F, OA.call 15 mould_Read.F, OA.call 11 mould_Write.F], OAok Try.prog h ∧ h.nat from hs_cons wainwrightlaw01_lives.oa wainwrightlaw01_lives.nat (hs_cons mould_Write.oa mould_Write.nat (hs_cons mould_Read.oa mould_Read.nat (hs_cons wainwrightref01_Same.oa wainwrightref01_Same.nat (hs_cons mould_Size.oa mould_Size.nat (hs_cons mould_Read.oa mould_Read.nat (hs_cons mould_Write.oa mould_Write.nat hs_nil)))))))
theorem wainwrightlaw01_MouldBack.oa : OAok Try.prog (.call 5 wainwrightlaw01_MouldBack.F) := by
  refine ⟨?_, Try.f5, wainwrightlaw01_MouldBack.code, Try.func5, rfl, by decide⟩
  have h := fn_sound tt_ok mix_ok (x := wainwrightlaw01_MouldBack.ann) (ps := [(.sl I), (.sl I), .str]) (rs := ⟨83, [], [(6, .v .bool)]⟩) (N := 83) Try.func5 (c := wainwrightlaw01_MouldBack.code) rfl rfl rfl (by decide) wainwrightlaw01_MouldBack.ok (by decide)
  rw [wainwrightlaw01_MouldBack.eq] at h
  exact h
theorem wainwrightlaw01_MouldBack.sound : FnSound Try.prog 5 wainwrightlaw01_MouldBack.F := wainwrightlaw01_MouldBack.oa.1

/-! ### wainwright/wainwrightlaw01.MouldSplits: function 6 -/
noncomputable def wainwrightlaw01_MouldSplits : List Int × List Int × Int → Option (Bool) := fun (widths0, values1, cut2) =>
  (wainwrightlaw01_lives ()).bind fun r14 =>
  if (!r14) = true then
    some false
  else
    (mould_Write (widths0, values1)).bind fun (r19_0, r19_1) =>
    if (r19_1 != 0) = true then
      some ((r19_0 == []))
    else
      if IntKind.u64.wrap (IntKind.i64.wrap ((widths0.length : Int) + 1)) = 0 then none else
      if 0 ≤ IntKind.i64.wrap (Int.tmod (IntKind.u64.wrap (cut2)) (IntKind.u64.wrap (IntKind.i64.wrap ((widths0.length : Int) + 1)))) ∧ IntKind.i64.wrap (Int.tmod (IntKind.u64.wrap (cut2)) (IntKind.u64.wrap (IntKind.i64.wrap ((widths0.length : Int) + 1)))) ≤ (widths0.length : Int) then
        if 0 ≤ IntKind.i64.wrap (Int.tmod (IntKind.u64.wrap (cut2)) (IntKind.u64.wrap (IntKind.i64.wrap ((widths0.length : Int) + 1)))) ∧ IntKind.i64.wrap (Int.tmod (IntKind.u64.wrap (cut2)) (IntKind.u64.wrap (IntKind.i64.wrap ((widths0.length : Int) + 1)))) ≤ (values1.length : Int) then
          (mould_Write (widths0.take (IntKind.i64.wrap (Int.tmod (IntKind.u64.wrap (cut2)) (IntKind.u64.wrap (IntKind.i64.wrap ((widths0.length : Int) + 1))))).toNat, values1.take (IntKind.i64.wrap (Int.tmod (IntKind.u64.wrap (cut2)) (IntKind.u64.wrap (IntKind.i64.wrap ((widths0.length : Int) + 1))))).toNat)).bind fun (r41_0, r41_1) =>
          if 0 ≤ IntKind.i64.wrap (Int.tmod (IntKind.u64.wrap (cut2)) (IntKind.u64.wrap (IntKind.i64.wrap ((widths0.length : Int) + 1)))) ∧ IntKind.i64.wrap (Int.tmod (IntKind.u64.wrap (cut2)) (IntKind.u64.wrap (IntKind.i64.wrap ((widths0.length : Int) + 1)))) ≤ (widths0.length : Int) then
            if 0 ≤ IntKind.i64.wrap (Int.tmod (IntKind.u64.wrap (cut2)) (IntKind.u64.wrap (IntKind.i64.wrap ((widths0.length : Int) + 1)))) ∧ IntKind.i64.wrap (Int.tmod (IntKind.u64.wrap (cut2)) (IntKind.u64.wrap (IntKind.i64.wrap ((widths0.length : Int) + 1)))) ≤ (values1.length : Int) then
              (mould_Write (widths0.drop (IntKind.i64.wrap (Int.tmod (IntKind.u64.wrap (cut2)) (IntKind.u64.wrap (IntKind.i64.wrap ((widths0.length : Int) + 1))))).toNat, values1.drop (IntKind.i64.wrap (Int.tmod (IntKind.u64.wrap (cut2)) (IntKind.u64.wrap (IntKind.i64.wrap ((widths0.length : Int) + 1))))).toNat)).bind fun (r51_0, r51_1) =>
              if (r41_1 == 0) = true then
                if (r51_1 == 0) = true then
                  if r41_0.length + r51_0.length ≤ 9223372036854775807 then
                    some (((r41_0 ++ r51_0) == r19_0))
                  else none
                else
                  some false
              else
                some false
            else none
          else none
        else none
      else none

def wainwrightlaw01_MouldSplits.ps : List Ty := [(.sl I), (.sl I), I]
def wainwrightlaw01_MouldSplits.rs : Spec := ⟨67, [], [(6, .v .bool)]⟩
noncomputable def wainwrightlaw01_MouldSplits.F : Fun := mkFun [(.sl I), (.sl I), I] ⟨67, [], [(6, .v .bool)]⟩ wainwrightlaw01_MouldSplits
theorem wainwrightlaw01_MouldSplits.nat : FunNat wainwrightlaw01_MouldSplits.F := mkFun_nat _ _ _
noncomputable def wainwrightlaw01_MouldSplits.ann : Ann :=
  (.seq (.reg []) (.seq (.seq (.reg [.call 10 wainwrightlaw01_lives.F]) (.cond (.seq (.reg []) .std) .std)) (.seq (.reg [.std, .std, .call 11 mould_Write.F]) (.seq (.seq (.reg []) (.cond (.seq (.reg []) .std) .std)) (.seq (.reg []) (.seq (.drw [.std, .std, .std, .std, .std, .std, .call 11 mould_Write.F]) (.seq (.drw [.std, .std, .std, .std, .std, .std, .call 11 mould_Write.F]) (.seq (.reg []) .std))))))))
noncomputable def wainwrightlaw01_MouldSplits.code : Code := match Try.f6.body with | some c => c | none => .skip
theorem wainwrightlaw01_MouldSplits.eq : absFn tt 67 [(.sl I), (.sl I), I] ⟨67, [], [(6, .v .bool)]⟩ wainwrightlaw01_MouldSplits.code wainwrightlaw01_MouldSplits.ann = wainwrightlaw01_MouldSplits := by
  funext a
  kernel_rfl
theorem wainwrightlaw01_MouldSplits.ok : wainwrightlaw01_MouldSplits.ann.ok Try.prog 67 :=
  ann_ok (by kernel_rfl) (show ∀ h ∈ [OA.call 10 wainwrightlaw01_lives.F, OA.call 11 mould_Write.F, OA.call 11 mould_Write.F, OA.call 11 mould_Write.F], OAok Try.prog h ∧ h.nat from hs_cons wainwrightlaw01_lives.oa wainwrightlaw01_lives.nat (hs_cons mould_Write.oa mould_Write.nat (hs_cons mould_Write.oa mould_Write.nat (hs_cons mould_Write.oa mould_Write.nat hs_nil))))
theorem wainwrightlaw01_MouldSplits.oa : OAok Try.prog (.call 6 wainwrightlaw01_MouldSplits.F) := by
  refine ⟨?_, Try.f6, wainwrightlaw01_MouldSplits.code, Try.func6, rfl, by decide⟩
  have h := fn_sound tt_ok mix_ok (x := wainwrightlaw01_MouldSplits.ann) (ps := [(.sl I), (.sl I), I]) (rs := ⟨67, [], [(6, .v .bool)]⟩) (N := 67) Try.func6 (c := wainwrightlaw01_MouldSplits.code) rfl rfl rfl (by decide) wainwrightlaw01_MouldSplits.ok (by decide)
  rw [wainwrightlaw01_MouldSplits.eq] at h
  exact h
theorem wainwrightlaw01_MouldSplits.sound : FnSound Try.prog 6 wainwrightlaw01_MouldSplits.F := wainwrightlaw01_MouldSplits.oa.1

/-! ### wainwright/marks.there: function 30 -/
noncomputable def marks_there : List UInt8 × Int → Option (Bool) := fun (m0, i1) =>
  if decide (i1 ≥ 0) = true then
    some (decide (i1 < IntKind.i64.wrap (8 * (m0.length : Int))))
  else
    some false

def marks_there.ps : List Ty := [.str, I]
def marks_there.rs : Spec := ⟨14, [], [(4, .v .bool)]⟩
noncomputable def marks_there.F : Fun := mkFun [.str, I] ⟨14, [], [(4, .v .bool)]⟩ marks_there
theorem marks_there.nat : FunNat marks_there.F := mkFun_nat _ _ _
noncomputable def marks_there.ann : Ann :=
  (.seq (.reg []) (.seq (.reg []) .std))
noncomputable def marks_there.code : Code := match Try.f30.body with | some c => c | none => .skip
theorem marks_there.eq : absFn tt 14 [.str, I] ⟨14, [], [(4, .v .bool)]⟩ marks_there.code marks_there.ann = marks_there := by
  funext a
  kernel_rfl
theorem marks_there.ok : marks_there.ann.ok Try.prog 14 :=
  ann_ok (by kernel_rfl) (show ∀ h ∈ [], OAok Try.prog h ∧ h.nat from hs_nil)
theorem marks_there.oa : OAok Try.prog (.call 30 marks_there.F) := by
  refine ⟨?_, Try.f30, marks_there.code, Try.func30, rfl, by decide⟩
  have h := fn_sound tt_ok mix_ok (x := marks_there.ann) (ps := [.str, I]) (rs := ⟨14, [], [(4, .v .bool)]⟩) (N := 14) Try.func30 (c := marks_there.code) rfl rfl rfl (by decide) marks_there.ok (by decide)
  rw [marks_there.eq] at h
  exact h
theorem marks_there.sound : FnSound Try.prog 30 marks_there.F := marks_there.oa.1

/-! ### wainwright/marks.Is: function 20 -/
noncomputable def marks_Is : List UInt8 × Int → Option (Bool) := fun (m0, i1) =>
  (marks_there (m0, i1)).bind fun r7 =>
  if (!r7) = false then
    if 0 ≤ IntKind.i64.wrap (Int.tdiv i1 8) ∧ IntKind.i64.wrap (Int.tdiv i1 8) < (m0.length : Int) then
      if 0 ≤ Int.tmod i1 8 then
        some ((bitsOp .and .u8 (Int.fdiv ((m0.getD ((IntKind.i64.wrap (Int.tdiv i1 8)).toNat) 0).toNat : Int) (2 ^ (min (Int.tmod i1 8).toNat 8))) 1 == 1))
      else none
    else none
  else
    some true

def marks_Is.ps : List Ty := [.str, I]
def marks_Is.rs : Spec := ⟨20, [], [(4, .v .bool)]⟩
noncomputable def marks_Is.F : Fun := mkFun [.str, I] ⟨20, [], [(4, .v .bool)]⟩ marks_Is
theorem marks_Is.nat : FunNat marks_Is.F := mkFun_nat _ _ _
noncomputable def marks_Is.ann : Ann :=
  (.seq (.reg []) (.seq (.reg [.std, .std, .call 30 marks_there.F]) .std))
noncomputable def marks_Is.code : Code := match Try.f20.body with | some c => c | none => .skip
theorem marks_Is.eq : absFn tt 20 [.str, I] ⟨20, [], [(4, .v .bool)]⟩ marks_Is.code marks_Is.ann = marks_Is := by
  funext a
  kernel_rfl
theorem marks_Is.ok : marks_Is.ann.ok Try.prog 20 :=
  ann_ok (by kernel_rfl) (show ∀ h ∈ [OA.call 30 marks_there.F], OAok Try.prog h ∧ h.nat from hs_cons marks_there.oa marks_there.nat hs_nil)
theorem marks_Is.oa : OAok Try.prog (.call 20 marks_Is.F) := by
  refine ⟨?_, Try.f20, marks_Is.code, Try.func20, rfl, by decide⟩
  have h := fn_sound tt_ok mix_ok (x := marks_Is.ann) (ps := [.str, I]) (rs := ⟨20, [], [(4, .v .bool)]⟩) (N := 20) Try.func20 (c := marks_Is.code) rfl rfl rfl (by decide) marks_Is.ok (by decide)
  rw [marks_Is.eq] at h
  exact h
theorem marks_Is.sound : FnSound Try.prog 20 marks_Is.F := marks_Is.oa.1

/-! ### wainwright/marks.Run: function 26 -/
noncomputable def marks_Run.l1 : List UInt8 × Int × Int × Int × Int → Option (List UInt8 × Int × Int × Int × Int ⊕ Unit ⊕ (Int × Bool)) := fun (m0, n2, length3, row10, i11) =>
  if decide (i11 < n2) = true then
    ((
      (marks_Is (m0, i11)).bind fun r30 =>
      if r30 = true then
        some ((m0, n2, length3, 0, i11))
      else
        some ((m0, n2, length3, IntKind.i64.wrap (row10 + 1), i11))) : Option ((List UInt8 × Int × Int × Int × Int))).bind fun (m0, n2, length3, row10, i11) =>
      if (row10 == length3) = true then
        some (.inr (.inr (((IntKind.i64.wrap ((IntKind.i64.wrap (i11 + 1)) - length3), true)))))
      else
        some (.inl ((m0, n2, length3, row10, IntKind.i64.wrap (i11 + 1))))
  else
    some (.inr (.inl ()))

noncomputable def marks_Run : List UInt8 × Int × Int × Int → Option (Int × Bool) := fun (m0, from1, n2, length3) =>
  if decide (length3 < 1) = true then
    some ((0, false))
  else
    (loopO marks_Run.l1 ((m0, (if IntKind.i64.wrap (8 * (m0.length : Int)) < n2 then IntKind.i64.wrap (8 * (m0.length : Int)) else n2), length3, 0, (if 0 > from1 then 0 else from1)))).bind fun d => match d with
    | .inl _ =>
      some ((0, false))
    | .inr ((t8, t9)) =>
      some ((t8, t9))

def marks_Run.ps : List Ty := [.str, I, I, I]
def marks_Run.rs : Spec := ⟨38, [], [(8, .v I), (9, .v .bool)]⟩
noncomputable def marks_Run.F : Fun := mkFun [.str, I, I, I] ⟨38, [], [(8, .v I), (9, .v .bool)]⟩ marks_Run
theorem marks_Run.nat : FunNat marks_Run.F := mkFun_nat _ _ _
noncomputable def marks_Run.ann : Ann :=
  (.seq (.reg []) (.seq (.seq (.reg []) (.cond (.seq (.reg []) .std) .std)) (.seq (.reg []) (.seq (.reg []) (.seq (.seq (.reg []) (.block (.loop ⟨38, [], [(0, .v .str), (2, .v I), (3, .v I), (10, .v I), (11, .v I)]⟩ [(.exit 0, ⟨38, [], []⟩), (.ret, ⟨38, [], [(8, .v I), (9, .v .bool)]⟩)]
  (.seq (.seq (.reg []) (.cond .std .std)) (.seq (.block (.seq (.reg []) (.join [(.norm, ⟨38, [], [(0, .v .str), (2, .v I), (3, .v I), (10, .v I), (11, .v I)]⟩)]
  (.seq (.reg [.std, .std, .call 20 marks_Is.F]) (.cond (.reg []) .std)) (.seq (.reg []) (.cond (.seq (.reg []) .std) .std))))) (.reg [])))))) (.seq (.reg []) .std))))))
noncomputable def marks_Run.code : Code := match Try.f26.body with | some c => c | none => .skip
theorem marks_Run.eq : absFn tt 38 [.str, I, I, I] ⟨38, [], [(8, .v I), (9, .v .bool)]⟩ marks_Run.code marks_Run.ann = marks_Run := by
  funext a
  kernel_rfl
theorem marks_Run.ok : marks_Run.ann.ok Try.prog 38 :=
  ann_ok (by kernel_rfl) (show ∀ h ∈ [OA.call 20 marks_Is.F], OAok Try.prog h ∧ h.nat from hs_cons marks_Is.oa marks_Is.nat hs_nil)
theorem marks_Run.oa : OAok Try.prog (.call 26 marks_Run.F) := by
  refine ⟨?_, Try.f26, marks_Run.code, Try.func26, rfl, by decide⟩
  have h := fn_sound tt_ok mix_ok (x := marks_Run.ann) (ps := [.str, I, I, I]) (rs := ⟨38, [], [(8, .v I), (9, .v .bool)]⟩) (N := 38) Try.func26 (c := marks_Run.code) rfl rfl rfl (by decide) marks_Run.ok (by decide)
  rw [marks_Run.eq] at h
  exact h
theorem marks_Run.sound : FnSound Try.prog 26 marks_Run.F := marks_Run.oa.1

/-! ### wainwright/marks.First: function 29 -/
noncomputable def marks_First : List UInt8 × Int × Int → Option (Int × Bool) := fun (m0, from1, n2) =>
  (marks_Run (m0, from1, n2, 1)).bind fun (r11_0, r11_1) =>
  some ((r11_0, r11_1))

def marks_First.ps : List Ty := [.str, I, I]
def marks_First.rs : Spec := ⟨14, [], [(6, .v I), (7, .v .bool)]⟩
noncomputable def marks_First.F : Fun := mkFun [.str, I, I] ⟨14, [], [(6, .v I), (7, .v .bool)]⟩ marks_First
theorem marks_First.nat : FunNat marks_First.F := mkFun_nat _ _ _
noncomputable def marks_First.ann : Ann :=
  (.seq (.reg []) (.seq (.reg [.std, .std, .std, .call 26 marks_Run.F]) .std))
noncomputable def marks_First.code : Code := match Try.f29.body with | some c => c | none => .skip
theorem marks_First.eq : absFn tt 14 [.str, I, I] ⟨14, [], [(6, .v I), (7, .v .bool)]⟩ marks_First.code marks_First.ann = marks_First := by
  funext a
  kernel_rfl
theorem marks_First.ok : marks_First.ann.ok Try.prog 14 :=
  ann_ok (by kernel_rfl) (show ∀ h ∈ [OA.call 26 marks_Run.F], OAok Try.prog h ∧ h.nat from hs_cons marks_Run.oa marks_Run.nat hs_nil)
theorem marks_First.oa : OAok Try.prog (.call 29 marks_First.F) := by
  refine ⟨?_, Try.f29, marks_First.code, Try.func29, rfl, by decide⟩
  have h := fn_sound tt_ok mix_ok (x := marks_First.ann) (ps := [.str, I, I]) (rs := ⟨14, [], [(6, .v I), (7, .v .bool)]⟩) (N := 14) Try.func29 (c := marks_First.code) rfl rfl rfl (by decide) marks_First.ok (by decide)
  rw [marks_First.eq] at h
  exact h
theorem marks_First.sound : FnSound Try.prog 29 marks_First.F := marks_First.oa.1

/-! ### wainwright/marks.Longest: function 27 -/
noncomputable def marks_Longest.l1 : List UInt8 × Int × Int × Int × Int × Int → Option (List UInt8 × Int × Int × Int × Int × Int ⊕ (Int × Int)) := fun (m0, at6, best7, row8, t15, t16) =>
  if decide (t16 < t15) = true then
    ((
      (marks_Is (m0, t16)).bind fun r23 =>
      if r23 = true then
        some ((m0, at6, best7, 0, t16, t15, t16))
      else
        some ((m0, at6, best7, IntKind.i64.wrap (row8 + 1), t16, t15, t16))) : Option ((List UInt8 × Int × Int × Int × Int × Int × Int))).bind fun (m0, at6, best7, row8, i9, t15, t16) =>
      if decide (row8 > best7) = true then
        some (.inl ((m0, IntKind.i64.wrap ((IntKind.i64.wrap (i9 + 1)) - row8), row8, row8, t15, IntKind.i64.wrap (t16 + 1))))
      else
        some (.inl ((m0, at6, best7, row8, t15, IntKind.i64.wrap (t16 + 1))))
  else
    some (.inr ((at6, best7)))

noncomputable def marks_Longest : List UInt8 × Int → Option (Int × Int) := fun (m0, n1) =>
  (loopO marks_Longest.l1 ((m0, 0, 0, 0, (if IntKind.i64.wrap (8 * (m0.length : Int)) < (if 0 > n1 then 0 else n1) then IntKind.i64.wrap (8 * (m0.length : Int)) else (if 0 > n1 then 0 else n1)), 0))).bind fun (at6, best7) =>
    some ((at6, best7))

def marks_Longest.ps : List Ty := [.str, I]
def marks_Longest.rs : Spec := ⟨35, [], [(4, .v I), (5, .v I)]⟩
noncomputable def marks_Longest.F : Fun := mkFun [.str, I] ⟨35, [], [(4, .v I), (5, .v I)]⟩ marks_Longest
theorem marks_Longest.nat : FunNat marks_Longest.F := mkFun_nat _ _ _
noncomputable def marks_Longest.ann : Ann :=
  (.seq (.reg []) (.seq (.reg []) (.seq (.seq (.reg []) (.block (.loop ⟨35, [], [(0, .v .str), (6, .v I), (7, .v I), (8, .v I), (15, .v I), (16, .v I)]⟩ [(.exit 0, ⟨35, [], [(6, .v I), (7, .v I)]⟩)]
  (.seq (.reg []) (.seq (.cond .std .std) (.seq (.block (.seq (.reg []) (.seq (.reg []) (.join [(.norm, ⟨35, [], [(0, .v .str), (6, .v I), (7, .v I), (8, .v I), (9, .v I), (15, .v I), (16, .v I)]⟩)]
  (.seq (.reg [.std, .std, .call 20 marks_Is.F]) (.cond (.reg []) .std)) (.seq (.reg []) (.cond (.reg []) .std)))))) (.reg []))))))) (.seq (.reg []) .std))))
noncomputable def marks_Longest.code : Code := match Try.f27.body with | some c => c | none => .skip
theorem marks_Longest.eq : absFn tt 35 [.str, I] ⟨35, [], [(4, .v I), (5, .v I)]⟩ marks_Longest.code marks_Longest.ann = marks_Longest := by
  funext a
  kernel_rfl
theorem marks_Longest.ok : marks_Longest.ann.ok Try.prog 35 :=
  ann_ok (by kernel_rfl) (show ∀ h ∈ [OA.call 20 marks_Is.F], OAok Try.prog h ∧ h.nat from hs_cons marks_Is.oa marks_Is.nat hs_nil)
theorem marks_Longest.oa : OAok Try.prog (.call 27 marks_Longest.F) := by
  refine ⟨?_, Try.f27, marks_Longest.code, Try.func27, rfl, by decide⟩
  have h := fn_sound tt_ok mix_ok (x := marks_Longest.ann) (ps := [.str, I]) (rs := ⟨35, [], [(4, .v I), (5, .v I)]⟩) (N := 35) Try.func27 (c := marks_Longest.code) rfl rfl rfl (by decide) marks_Longest.ok (by decide)
  rw [marks_Longest.eq] at h
  exact h
theorem marks_Longest.sound : FnSound Try.prog 27 marks_Longest.F := marks_Longest.oa.1

/-! ### math/bits.OnesCount8: function 31 -/
noncomputable def bits_OnesCount8 : Int → Option (Int) := fun x0 =>
  if 0 ≤ x0 ∧ x0 < ((([0, 1, 1, 2, 1, 2, 2, 3, 1, 2, 2, 3, 2, 3, 3, 4, 1, 2, 2, 3, 2, 3, 3, 4, 2, 3, 3, 4, 3, 4, 4, 5, 1, 2, 2, 3, 2, 3, 3, 4, 2, 3, 3, 4, 3, 4, 4, 5, 2, 3, 3, 4, 3, 4, 4, 5, 3, 4, 4, 5, 4, 5, 5, 6, 1, 2, 2, 3, 2, 3, 3, 4, 2, 3, 3, 4, 3, 4, 4, 5, 2, 3, 3, 4, 3, 4, 4, 5, 3, 4, 4, 5, 4, 5, 5, 6, 2, 3, 3, 4, 3, 4, 4, 5, 3, 4, 4, 5, 4, 5, 5, 6, 3, 4, 4, 5, 4, 5, 5, 6, 4, 5, 5, 6, 5, 6, 6, 7, 1, 2, 2, 3, 2, 3, 3, 4, 2, 3, 3, 4, 3, 4, 4, 5, 2, 3, 3, 4, 3, 4, 4, 5, 3, 4, 4, 5, 4, 5, 5, 6, 2, 3, 3, 4, 3, 4, 4, 5, 3, 4, 4, 5, 4, 5, 5, 6, 3, 4, 4, 5, 4, 5, 5, 6, 4, 5, 5, 6, 5, 6, 6, 7, 2, 3, 3, 4, 3, 4, 4, 5, 3, 4, 4, 5, 4, 5, 5, 6, 3, 4, 4, 5, 4, 5, 5, 6, 4, 5, 5, 6, 5, 6, 6, 7, 3, 4, 4, 5, 4, 5, 5, 6, 4, 5, 5, 6, 5, 6, 6, 7, 4, 5, 5, 6, 5, 6, 6, 7, 5, 6, 6, 7, 6, 7, 7, 8] : List UInt8)).length : Int) then
    some (IntKind.i64.wrap ((((([0, 1, 1, 2, 1, 2, 2, 3, 1, 2, 2, 3, 2, 3, 3, 4, 1, 2, 2, 3, 2, 3, 3, 4, 2, 3, 3, 4, 3, 4, 4, 5, 1, 2, 2, 3, 2, 3, 3, 4, 2, 3, 3, 4, 3, 4, 4, 5, 2, 3, 3, 4, 3, 4, 4, 5, 3, 4, 4, 5, 4, 5, 5, 6, 1, 2, 2, 3, 2, 3, 3, 4, 2, 3, 3, 4, 3, 4, 4, 5, 2, 3, 3, 4, 3, 4, 4, 5, 3, 4, 4, 5, 4, 5, 5, 6, 2, 3, 3, 4, 3, 4, 4, 5, 3, 4, 4, 5, 4, 5, 5, 6, 3, 4, 4, 5, 4, 5, 5, 6, 4, 5, 5, 6, 5, 6, 6, 7, 1, 2, 2, 3, 2, 3, 3, 4, 2, 3, 3, 4, 3, 4, 4, 5, 2, 3, 3, 4, 3, 4, 4, 5, 3, 4, 4, 5, 4, 5, 5, 6, 2, 3, 3, 4, 3, 4, 4, 5, 3, 4, 4, 5, 4, 5, 5, 6, 3, 4, 4, 5, 4, 5, 5, 6, 4, 5, 5, 6, 5, 6, 6, 7, 2, 3, 3, 4, 3, 4, 4, 5, 3, 4, 4, 5, 4, 5, 5, 6, 3, 4, 4, 5, 4, 5, 5, 6, 4, 5, 5, 6, 5, 6, 6, 7, 3, 4, 4, 5, 4, 5, 5, 6, 4, 5, 5, 6, 5, 6, 6, 7, 4, 5, 5, 6, 5, 6, 6, 7, 5, 6, 6, 7, 6, 7, 7, 8] : List UInt8)).getD x0.toNat 0).toNat : Int)))
  else none

def bits_OnesCount8.ps : List Ty := [(.int .u8)]
def bits_OnesCount8.rs : Spec := ⟨6, [], [(2, .v I)]⟩
noncomputable def bits_OnesCount8.F : Fun := mkFun [(.int .u8)] ⟨6, [], [(2, .v I)]⟩ bits_OnesCount8
theorem bits_OnesCount8.nat : FunNat bits_OnesCount8.F := mkFun_nat _ _ _
noncomputable def bits_OnesCount8.ann : Ann :=
  (.seq (.reg []) (.seq (.reg []) .std))
noncomputable def bits_OnesCount8.code : Code := match Try.f31.body with | some c => c | none => .skip
theorem bits_OnesCount8.eq : absFn tt 6 [(.int .u8)] ⟨6, [], [(2, .v I)]⟩ bits_OnesCount8.code bits_OnesCount8.ann = bits_OnesCount8 := by
  funext a
  kernel_rfl
theorem bits_OnesCount8.ok : bits_OnesCount8.ann.ok Try.prog 6 :=
  ann_ok (by kernel_rfl) (show ∀ h ∈ [], OAok Try.prog h ∧ h.nat from hs_nil)
theorem bits_OnesCount8.oa : OAok Try.prog (.call 31 bits_OnesCount8.F) := by
  refine ⟨?_, Try.f31, bits_OnesCount8.code, Try.func31, rfl, by decide⟩
  have h := fn_sound tt_ok mix_ok (x := bits_OnesCount8.ann) (ps := [(.int .u8)]) (rs := ⟨6, [], [(2, .v I)]⟩) (N := 6) Try.func31 (c := bits_OnesCount8.code) rfl rfl rfl (by decide) bits_OnesCount8.ok (by decide)
  rw [bits_OnesCount8.eq] at h
  exact h
theorem bits_OnesCount8.sound : FnSound Try.prog 31 bits_OnesCount8.F := bits_OnesCount8.oa.1

/-! ### wainwright/marks.Count: function 24 -/
noncomputable def marks_Count.l1 : List UInt8 × Int × Int × Int × List Int × Int × Int → Option (List UInt8 × Int × Int × Int × List Int × Int × Int ⊕ (List UInt8 × Int × Int × Int)) := fun (m0, n1, whole5, c6, t27, t28, t29) =>
  if decide (t29 < t28) = true then
    if 0 ≤ t29 ∧ t29 < (t27.length : Int) then
      (bits_OnesCount8 (t27.getD t29.toNat 0)).bind fun r35 =>
      some (.inl ((m0, n1, whole5, IntKind.i64.wrap (c6 + r35), t27, t28, IntKind.i64.wrap (t29 + 1))))
    else none
  else
    some (.inr ((m0, n1, whole5, c6)))

noncomputable def marks_Count : List UInt8 × Int → Option (Int) := fun (m0, n1) =>
  if 0 ≤ (if (m0.length : Int) < IntKind.i64.wrap (Int.tdiv (if 100000 < (if 0 > n1 then 0 else n1) then 100000 else (if 0 > n1 then 0 else n1)) 8) then (m0.length : Int) else IntKind.i64.wrap (Int.tdiv (if 100000 < (if 0 > n1 then 0 else n1) then 100000 else (if 0 > n1 then 0 else n1)) 8)) ∧ (if (m0.length : Int) < IntKind.i64.wrap (Int.tdiv (if 100000 < (if 0 > n1 then 0 else n1) then 100000 else (if 0 > n1 then 0 else n1)) 8) then (m0.length : Int) else IntKind.i64.wrap (Int.tdiv (if 100000 < (if 0 > n1 then 0 else n1) then 100000 else (if 0 > n1 then 0 else n1)) 8)) ≤ (m0.length : Int) then
    (loopO marks_Count.l1 ((m0, (if 100000 < (if 0 > n1 then 0 else n1) then 100000 else (if 0 > n1 then 0 else n1)), (if (m0.length : Int) < IntKind.i64.wrap (Int.tdiv (if 100000 < (if 0 > n1 then 0 else n1) then 100000 else (if 0 > n1 then 0 else n1)) 8) then (m0.length : Int) else IntKind.i64.wrap (Int.tdiv (if 100000 < (if 0 > n1 then 0 else n1) then 100000 else (if 0 > n1 then 0 else n1)) 8)), (if 0 > IntKind.i64.wrap ((if 100000 < (if 0 > n1 then 0 else n1) then 100000 else (if 0 > n1 then 0 else n1)) - (IntKind.i64.wrap (8 * (m0.length : Int)))) then 0 else IntKind.i64.wrap ((if 100000 < (if 0 > n1 then 0 else n1) then 100000 else (if 0 > n1 then 0 else n1)) - (IntKind.i64.wrap (8 * (m0.length : Int))))), (m0.take ((if (m0.length : Int) < IntKind.i64.wrap (Int.tdiv (if 100000 < (if 0 > n1 then 0 else n1) then 100000 else (if 0 > n1 then 0 else n1)) 8) then (m0.length : Int) else IntKind.i64.wrap (Int.tdiv (if 100000 < (if 0 > n1 then 0 else n1) then 100000 else (if 0 > n1 then 0 else n1)) 8))).toNat).map fun b => (b.toNat : Int), (((m0.take ((if (m0.length : Int) < IntKind.i64.wrap (Int.tdiv (if 100000 < (if 0 > n1 then 0 else n1) then 100000 else (if 0 > n1 then 0 else n1)) 8) then (m0.length : Int) else IntKind.i64.wrap (Int.tdiv (if 100000 < (if 0 > n1 then 0 else n1) then 100000 else (if 0 > n1 then 0 else n1)) 8))).toNat).map fun b => (b.toNat : Int)).length : Int), 0))).bind fun (m0, n1, whole5, c6) =>
      ((
        if decide (whole5 < (m0.length : Int)) = true then
          some ((m0, whole5, c6, IntKind.i64.wrap (n1 - (IntKind.i64.wrap (8 * whole5))), decide (IntKind.i64.wrap (n1 - (IntKind.i64.wrap (8 * whole5))) > 0)))
        else
          some ((m0, whole5, c6, IntKind.i64.wrap (n1 - (IntKind.i64.wrap (8 * whole5))), false))) : Option ((List UInt8 × Int × Int × Int × Bool))).bind fun (m0, whole5, c6, rest9, t49) =>
        if t49 = true then
          if 0 ≤ whole5 ∧ whole5 < (m0.length : Int) then
            if 0 ≤ rest9 then
              (bits_OnesCount8 (bitsOp .and .u8 ((m0.getD whole5.toNat 0).toNat : Int) (IntKind.u8.wrap ((IntKind.u8.wrap (1 * 2 ^ (min rest9.toNat 8))) - 1)))).bind fun r58 =>
              some (IntKind.i64.wrap (c6 + r58))
            else none
          else none
        else
          some c6
  else none

def marks_Count.ps : List Ty := [.str, I]
def marks_Count.rs : Spec := ⟨61, [], [(4, .v I)]⟩
noncomputable def marks_Count.F : Fun := mkFun [.str, I] ⟨61, [], [(4, .v I)]⟩ marks_Count
theorem marks_Count.nat : FunNat marks_Count.F := mkFun_nat _ _ _
noncomputable def marks_Count.ann : Ann :=
  (.seq (.reg []) (.seq (.reg []) (.seq (.reg []) (.seq (.reg []) (.seq (.seq (.reg [.std, .std, .std, .inl (.int .u8)]) (.block (.loop ⟨61, [], [(0, .v .str), (1, .v I), (5, .v I), (6, .v I), (27, .v (.sl (.int .u8))), (28, .v I), (29, .v I)]⟩ [(.exit 0, ⟨61, [], [(0, .v .str), (1, .v I), (5, .v I), (6, .v I)]⟩)]
  (.seq (.reg []) (.seq (.cond .std .std) (.seq (.block (.seq (.reg []) (.reg [.std, .std, .call 31 bits_OnesCount8.F]))) (.reg []))))))) (.seq (.seq (.reg []) (.join [(.norm, ⟨61, [], [(0, .v .str), (5, .v I), (6, .v I), (9, .v I), (49, .v .bool)]⟩)]
  (.reg []) (.cond (.drw [.std, .std, .std, .std, .std, .std, .std, .std, .call 31 bits_OnesCount8.F]) .std))) (.seq (.reg []) .std)))))))
noncomputable def marks_Count.code : Code := match Try.f24.body with | some c => c | none => .skip
theorem marks_Count.eq : absFn tt 61 [.str, I] ⟨61, [], [(4, .v I)]⟩ marks_Count.code marks_Count.ann = marks_Count := by
  funext a
  kernel_rfl
theorem marks_Count.ok : marks_Count.ann.ok Try.prog 61 :=
  ann_ok (by kernel_rfl) (show ∀ h ∈ [OA.call 31 bits_OnesCount8.F, OA.call 31 bits_OnesCount8.F], OAok Try.prog h ∧ h.nat from hs_cons bits_OnesCount8.oa bits_OnesCount8.nat (hs_cons bits_OnesCount8.oa bits_OnesCount8.nat hs_nil))
theorem marks_Count.oa : OAok Try.prog (.call 24 marks_Count.F) := by
  refine ⟨?_, Try.f24, marks_Count.code, Try.func24, rfl, by decide⟩
  have h := fn_sound tt_ok mix_ok (x := marks_Count.ann) (ps := [.str, I]) (rs := ⟨61, [], [(4, .v I)]⟩) (N := 61) Try.func24 (c := marks_Count.code) rfl rfl rfl (by decide) marks_Count.ok (by decide)
  rw [marks_Count.eq] at h
  exact h
theorem marks_Count.sound : FnSound Try.prog 24 marks_Count.F := marks_Count.oa.1

/-! ### wainwright/wainwrightlaw03.lives: function 18 -/
noncomputable def wainwrightlaw03_lives : Unit → Option (Bool) := fun _ =>
  (marks_First (([5] : List UInt8), 0, 8)).bind fun (r8_0, r8_1) =>
  (marks_Run (([5] : List UInt8), 0, 8, 2)).bind fun (r12_0, r12_1) =>
  (marks_Longest (([5] : List UInt8), 8)).bind fun (r16_0, r16_1) =>
  (marks_Is (([5] : List UInt8), 2)).bind fun r19 =>
  if r19 = true then
    (marks_Is (([5] : List UInt8), 1)).bind fun r21 =>
    if (!r21) = true then
      if r8_1 = true then
        if (r8_0 == 1) = true then
          if r12_1 = true then
            if (r12_0 == 3) = true then
              if (r16_0 == 3) = true then
                if (r16_1 == 5) = true then
                  (marks_Count (([5] : List UInt8), 8)).bind fun r47 =>
                  some ((r47 == 2))
                else
                  some false
              else
                some false
            else
              some false
          else
            some false
        else
          some false
      else
        some false
    else
      some false
  else
    some false

def wainwrightlaw03_lives.ps : List Ty := []
def wainwrightlaw03_lives.rs : Spec := ⟨50, [], [(0, .v .bool)]⟩
noncomputable def wainwrightlaw03_lives.F : Fun := mkFun [] ⟨50, [], [(0, .v .bool)]⟩ wainwrightlaw03_lives
theorem wainwrightlaw03_lives.nat : FunNat wainwrightlaw03_lives.F := mkFun_nat _ _ _
noncomputable def wainwrightlaw03_lives.ann : Ann :=
  (.seq (.reg []) (.seq (.reg [.call 29 marks_First.F]) (.seq (.reg [.call 26 marks_Run.F]) (.seq (.reg [.call 27 marks_Longest.F]) (.seq (.reg [.call 20 marks_Is.F, .std, .call 20 marks_Is.F, .std, .std, .std, .std, .std, .std, .std, .std, .std, .std, .std, .std, .std, .std, .std, .std, .std, .std, .std, .std, .std, .std, .std, .std, .std, .call 24 marks_Count.F]) .std)))))
noncomputable def wainwrightlaw03_lives.code : Code := match Try.f18.body with | some c => c | none => .skip
theorem wainwrightlaw03_lives.eq : absFn tt 50 [] ⟨50, [], [(0, .v .bool)]⟩ wainwrightlaw03_lives.code wainwrightlaw03_lives.ann = wainwrightlaw03_lives := by
  funext a
  kernel_rfl
theorem wainwrightlaw03_lives.ok : wainwrightlaw03_lives.ann.ok Try.prog 50 :=
  ann_ok (by kernel_rfl) (show ∀ h ∈ [OA.call 29 marks_First.F, OA.call 26 marks_Run.F, OA.call 27 marks_Longest.F, OA.call 20 marks_Is.F, OA.call 20 marks_Is.F, OA.call 24 marks_Count.F], OAok Try.prog h ∧ h.nat from hs_cons marks_First.oa marks_First.nat (hs_cons marks_Run.oa marks_Run.nat (hs_cons marks_Longest.oa marks_Longest.nat (hs_cons marks_Is.oa marks_Is.nat (hs_cons marks_Is.oa marks_Is.nat (hs_cons marks_Count.oa marks_Count.nat hs_nil))))))
theorem wainwrightlaw03_lives.oa : OAok Try.prog (.call 18 wainwrightlaw03_lives.F) := by
  refine ⟨?_, Try.f18, wainwrightlaw03_lives.code, Try.func18, rfl, by decide⟩
  have h := fn_sound tt_ok mix_ok (x := wainwrightlaw03_lives.ann) (ps := []) (rs := ⟨50, [], [(0, .v .bool)]⟩) (N := 50) Try.func18 (c := wainwrightlaw03_lives.code) rfl rfl rfl (by decide) wainwrightlaw03_lives.ok (by decide)
  rw [wainwrightlaw03_lives.eq] at h
  exact h
theorem wainwrightlaw03_lives.sound : FnSound Try.prog 18 wainwrightlaw03_lives.F := wainwrightlaw03_lives.oa.1

/-! ### wainwright/wainwrightlaw03.early: function 19 -/
noncomputable def wainwrightlaw03_early : List UInt8 → Option (List UInt8) := fun m0 =>
  if 0 ≤ (if 60 < (m0.length : Int) then 60 else (m0.length : Int)) ∧ (if 60 < (m0.length : Int) then 60 else (m0.length : Int)) ≤ (m0.length : Int) then
    some (m0.take ((if 60 < (m0.length : Int) then 60 else (m0.length : Int))).toNat)
  else none

def wainwrightlaw03_early.ps : List Ty := [.str]
def wainwrightlaw03_early.rs : Spec := ⟨8, [], [(2, .v .str)]⟩
noncomputable def wainwrightlaw03_early.F : Fun := mkFun [.str] ⟨8, [], [(2, .v .str)]⟩ wainwrightlaw03_early
theorem wainwrightlaw03_early.nat : FunNat wainwrightlaw03_early.F := mkFun_nat _ _ _
noncomputable def wainwrightlaw03_early.ann : Ann :=
  (.seq (.reg []) (.seq (.reg []) .std))
noncomputable def wainwrightlaw03_early.code : Code := match Try.f19.body with | some c => c | none => .skip
theorem wainwrightlaw03_early.eq : absFn tt 8 [.str] ⟨8, [], [(2, .v .str)]⟩ wainwrightlaw03_early.code wainwrightlaw03_early.ann = wainwrightlaw03_early := by
  funext a
  kernel_rfl
theorem wainwrightlaw03_early.ok : wainwrightlaw03_early.ann.ok Try.prog 8 :=
  ann_ok (by kernel_rfl) (show ∀ h ∈ [], OAok Try.prog h ∧ h.nat from hs_nil)
theorem wainwrightlaw03_early.oa : OAok Try.prog (.call 19 wainwrightlaw03_early.F) := by
  refine ⟨?_, Try.f19, wainwrightlaw03_early.code, Try.func19, rfl, by decide⟩
  have h := fn_sound tt_ok mix_ok (x := wainwrightlaw03_early.ann) (ps := [.str]) (rs := ⟨8, [], [(2, .v .str)]⟩) (N := 8) Try.func19 (c := wainwrightlaw03_early.code) rfl rfl rfl (by decide) wainwrightlaw03_early.ok (by decide)
  rw [wainwrightlaw03_early.eq] at h
  exact h
theorem wainwrightlaw03_early.sound : FnSound Try.prog 19 wainwrightlaw03_early.F := wainwrightlaw03_early.oa.1

/-! ### wainwright/wainwrightref03.Is: function 21 -/
noncomputable def wainwrightref03_Is.l1 : Int × Int × Int → Option (Int × Int × Int ⊕ (Int)) := fun (i1, x5, k6) =>
  if decide (k6 < Int.tmod i1 8) = true then
    some (.inl ((i1, IntKind.i64.wrap (Int.tdiv x5 2), IntKind.i64.wrap (k6 + 1))))
  else
    some (.inr x5)

noncomputable def wainwrightref03_Is : List UInt8 × Int → Option (Bool) := fun (m0, i1) =>
  if decide (i1 < 0) = false then
    if decide (i1 ≥ IntKind.i64.wrap (8 * (m0.length : Int))) = true then
      some true
    else
      if 0 ≤ IntKind.i64.wrap (Int.tdiv i1 8) ∧ IntKind.i64.wrap (Int.tdiv i1 8) < (m0.length : Int) then
        (loopO wainwrightref03_Is.l1 ((i1, IntKind.i64.wrap (((m0.getD ((IntKind.i64.wrap (Int.tdiv i1 8)).toNat) 0).toNat : Int)), 0))).bind fun x5 =>
          some ((Int.tmod x5 2 == 1))
      else none
  else
    some true

def wainwrightref03_Is.ps : List Ty := [.str, I]
def wainwrightref03_Is.rs : Spec := ⟨32, [], [(4, .v .bool)]⟩
noncomputable def wainwrightref03_Is.F : Fun := mkFun [.str, I] ⟨32, [], [(4, .v .bool)]⟩ wainwrightref03_Is
theorem wainwrightref03_Is.nat : FunNat wainwrightref03_Is.F := mkFun_nat _ _ _
noncomputable def wainwrightref03_Is.ann : Ann :=
  (.seq (.reg []) (.seq (.seq (.reg []) (.cond (.seq (.reg []) .std) .std)) (.seq (.reg []) (.seq (.seq (.reg []) (.block (.loop ⟨32, [], [(1, .v I), (5, .v I), (6, .v I)]⟩ [(.exit 0, ⟨32, [], [(5, .v I)]⟩)]
  (.seq (.seq (.reg []) (.cond .std .std)) (.seq (.block (.reg [])) (.reg [])))))) (.seq (.reg []) .std)))))
noncomputable def wainwrightref03_Is.code : Code := match Try.f21.body with | some c => c | none => .skip
theorem wainwrightref03_Is.eq : absFn tt 32 [.str, I] ⟨32, [], [(4, .v .bool)]⟩ wainwrightref03_Is.code wainwrightref03_Is.ann = wainwrightref03_Is := by
  funext a
  kernel_rfl
theorem wainwrightref03_Is.ok : wainwrightref03_Is.ann.ok Try.prog 32 :=
  ann_ok (by kernel_rfl) (show ∀ h ∈ [], OAok Try.prog h ∧ h.nat from hs_nil)
theorem wainwrightref03_Is.oa : OAok Try.prog (.call 21 wainwrightref03_Is.F) := by
  refine ⟨?_, Try.f21, wainwrightref03_Is.code, Try.func21, rfl, by decide⟩
  have h := fn_sound tt_ok mix_ok (x := wainwrightref03_Is.ann) (ps := [.str, I]) (rs := ⟨32, [], [(4, .v .bool)]⟩) (N := 32) Try.func21 (c := wainwrightref03_Is.code) rfl rfl rfl (by decide) wainwrightref03_Is.ok (by decide)
  rw [wainwrightref03_Is.eq] at h
  exact h
theorem wainwrightref03_Is.sound : FnSound Try.prog 21 wainwrightref03_Is.F := wainwrightref03_Is.oa.1

/-! ### wainwright/marks.Set: function 22 -/
noncomputable def marks_Set : List UInt8 × Int × Bool → Option (List UInt8) := fun (m0, i1, yes2) =>
  (marks_there (m0, i1)).bind fun r10 =>
  if (!r10) = false then
    (marks_Is (m0, i1)).bind fun r15 =>
    if (r15 == yes2) = true then
      some m0
    else
      if 0 ≤ IntKind.i64.wrap (Int.tdiv i1 8) ∧ IntKind.i64.wrap (Int.tdiv i1 8) < ((m0.map fun b => (b.toNat : Int)).length : Int) then
        if 0 ≤ Int.tmod i1 8 then
          if 0 ≤ IntKind.i64.wrap (Int.tdiv i1 8) ∧ IntKind.i64.wrap (Int.tdiv i1 8) < ((m0.map fun b => (b.toNat : Int)).length : Int) then
            some (((m0.map fun b => (b.toNat : Int)).set ((IntKind.i64.wrap (Int.tdiv i1 8)).toNat) (bitsOp .xor .u8 ((m0.map fun b => (b.toNat : Int)).getD ((IntKind.i64.wrap (Int.tdiv i1 8)).toNat) 0) (IntKind.u8.wrap (1 * 2 ^ (min (Int.tmod i1 8).toNat 8))))).map fun (n : Int) => UInt8.ofNat n.toNat)
          else none
        else none
      else none
  else
    some m0

def marks_Set.ps : List Ty := [.str, I, .bool]
def marks_Set.rs : Spec := ⟨34, [], [(6, .v .str)]⟩
noncomputable def marks_Set.F : Fun := mkFun [.str, I, .bool] ⟨34, [], [(6, .v .str)]⟩ marks_Set
theorem marks_Set.nat : FunNat marks_Set.F := mkFun_nat _ _ _
noncomputable def marks_Set.ann : Ann :=
  (.seq (.reg []) (.seq (.seq (.reg [.std, .std, .call 30 marks_there.F, .std, .std, .std, .std, .call 20 marks_Is.F]) (.cond (.seq (.reg []) .std) .std)) (.seq (.reg [.std, .obj (.int .u8)]) (.seq (.drw []) (.seq (.reg []) .std)))))
noncomputable def marks_Set.code : Code := match Try.f22.body with | some c => c | none => .skip
theorem marks_Set.eq : absFn tt 34 [.str, I, .bool] ⟨34, [], [(6, .v .str)]⟩ marks_Set.code marks_Set.ann = marks_Set := by
  funext a
  kernel_rfl
theorem marks_Set.ok : marks_Set.ann.ok Try.prog 34 :=
  ann_ok (by kernel_rfl) (show ∀ h ∈ [OA.call 30 marks_there.F, OA.call 20 marks_Is.F], OAok Try.prog h ∧ h.nat from hs_cons marks_there.oa marks_there.nat (hs_cons marks_Is.oa marks_Is.nat hs_nil))
theorem marks_Set.oa : OAok Try.prog (.call 22 marks_Set.F) := by
  refine ⟨?_, Try.f22, marks_Set.code, Try.func22, rfl, by decide⟩
  have h := fn_sound tt_ok mix_ok (x := marks_Set.ann) (ps := [.str, I, .bool]) (rs := ⟨34, [], [(6, .v .str)]⟩) (N := 34) Try.func22 (c := marks_Set.code) rfl rfl rfl (by decide) marks_Set.ok (by decide)
  rw [marks_Set.eq] at h
  exact h
theorem marks_Set.sound : FnSound Try.prog 22 marks_Set.F := marks_Set.oa.1

/-! ### wainwright/wainwrightref03.Set: function 23 -/
noncomputable def wainwrightref03_Set : List UInt8 × Int × Bool → Option (List UInt8) := fun (m0, i1, yes2) =>
  if decide (i1 < 0) = false then
    if decide (i1 ≥ IntKind.i64.wrap (8 * (m0.length : Int))) = false then
      (wainwrightref03_Is (m0, i1)).bind fun r20 =>
      if (r20 == yes2) = true then
        some m0
      else
        if 0 ≤ IntKind.i64.wrap (Int.tdiv i1 8) ∧ IntKind.i64.wrap (Int.tdiv i1 8) < ((m0.map fun b => (b.toNat : Int)).length : Int) then
          if 0 ≤ IntKind.u64.wrap (Int.tmod i1 8) then
            if 0 ≤ IntKind.i64.wrap (Int.tdiv i1 8) ∧ IntKind.i64.wrap (Int.tdiv i1 8) < ((m0.map fun b => (b.toNat : Int)).length : Int) then
              some (((m0.map fun b => (b.toNat : Int)).set ((IntKind.i64.wrap (Int.tdiv i1 8)).toNat) (bitsOp .xor .u8 ((m0.map fun b => (b.toNat : Int)).getD ((IntKind.i64.wrap (Int.tdiv i1 8)).toNat) 0) (IntKind.u8.wrap (1 * 2 ^ (min (IntKind.u64.wrap (Int.tmod i1 8)).toNat 8))))).map fun (n : Int) => UInt8.ofNat n.toNat)
            else none
          else none
        else none
    else
      some m0
  else
    some m0

def wainwrightref03_Set.ps : List Ty := [.str, I, .bool]
def wainwrightref03_Set.rs : Spec := ⟨40, [], [(6, .v .str)]⟩
noncomputable def wainwrightref03_Set.F : Fun := mkFun [.str, I, .bool] ⟨40, [], [(6, .v .str)]⟩ wainwrightref03_Set
theorem wainwrightref03_Set.nat : FunNat wainwrightref03_Set.F := mkFun_nat _ _ _
noncomputable def wainwrightref03_Set.ann : Ann :=
  (.seq (.reg []) (.seq (.seq (.reg [.std, .std, .std, .std, .std, .std, .std, .std, .std, .std, .std, .std, .call 21 wainwrightref03_Is.F]) (.cond (.seq (.reg []) .std) .std)) (.seq (.reg [.std, .obj (.int .u8)]) (.seq (.reg []) (.seq (.reg []) .std)))))
noncomputable def wainwrightref03_Set.code : Code := match Try.f23.body with | some c => c | none => .skip
theorem wainwrightref03_Set.eq : absFn tt 40 [.str, I, .bool] ⟨40, [], [(6, .v .str)]⟩ wainwrightref03_Set.code wainwrightref03_Set.ann = wainwrightref03_Set := by
  funext a
  kernel_rfl
theorem wainwrightref03_Set.ok : wainwrightref03_Set.ann.ok Try.prog 40 :=
  ann_ok (by kernel_rfl) (show ∀ h ∈ [OA.call 21 wainwrightref03_Is.F], OAok Try.prog h ∧ h.nat from hs_cons wainwrightref03_Is.oa wainwrightref03_Is.nat hs_nil)
theorem wainwrightref03_Set.oa : OAok Try.prog (.call 23 wainwrightref03_Set.F) := by
  refine ⟨?_, Try.f23, wainwrightref03_Set.code, Try.func23, rfl, by decide⟩
  have h := fn_sound tt_ok mix_ok (x := wainwrightref03_Set.ann) (ps := [.str, I, .bool]) (rs := ⟨40, [], [(6, .v .str)]⟩) (N := 40) Try.func23 (c := wainwrightref03_Set.code) rfl rfl rfl (by decide) wainwrightref03_Set.ok (by decide)
  rw [wainwrightref03_Set.eq] at h
  exact h
theorem wainwrightref03_Set.sound : FnSound Try.prog 23 wainwrightref03_Set.F := wainwrightref03_Set.oa.1

/-! ### wainwright/wainwrightref03.Count: function 25 -/
noncomputable def wainwrightref03_Count.l1 : List UInt8 × Int × Int × Int → Option (List UInt8 × Int × Int × Int ⊕ (Int)) := fun (m0, n1, c5, i6) =>
  if decide (i6 < n1) = true then
    if decide (i6 < 100000) = true then
      (wainwrightref03_Is (m0, i6)).bind fun r18 =>
      if r18 = true then
        some (.inl ((m0, n1, IntKind.i64.wrap (c5 + 1), IntKind.i64.wrap (i6 + 1))))
      else
        some (.inl ((m0, n1, c5, IntKind.i64.wrap (i6 + 1))))
    else
      some (.inr c5)
  else
    some (.inr c5)

noncomputable def wainwrightref03_Count : List UInt8 × Int → Option (Int) := fun (m0, n1) =>
  (loopO wainwrightref03_Count.l1 ((m0, n1, 0, 0))).bind fun c5 =>
    some c5

def wainwrightref03_Count.ps : List Ty := [.str, I]
def wainwrightref03_Count.rs : Spec := ⟨22, [], [(4, .v I)]⟩
noncomputable def wainwrightref03_Count.F : Fun := mkFun [.str, I] ⟨22, [], [(4, .v I)]⟩ wainwrightref03_Count
theorem wainwrightref03_Count.nat : FunNat wainwrightref03_Count.F := mkFun_nat _ _ _
noncomputable def wainwrightref03_Count.ann : Ann :=
  (.seq (.reg []) (.seq (.reg []) (.seq (.seq (.reg []) (.block (.loop ⟨22, [], [(0, .v .str), (1, .v I), (5, .v I), (6, .v I)]⟩ [(.exit 0, ⟨22, [], [(5, .v I)]⟩)]
  (.seq (.seq (.reg []) (.cond .std .std)) (.seq (.block (.seq (.reg [.std, .std, .call 21 wainwrightref03_Is.F]) (.cond (.reg []) .std))) (.reg [])))))) (.seq (.reg []) .std))))
noncomputable def wainwrightref03_Count.code : Code := match Try.f25.body with | some c => c | none => .skip
theorem wainwrightref03_Count.eq : absFn tt 22 [.str, I] ⟨22, [], [(4, .v I)]⟩ wainwrightref03_Count.code wainwrightref03_Count.ann = wainwrightref03_Count := by
  funext a
  kernel_rfl
theorem wainwrightref03_Count.ok : wainwrightref03_Count.ann.ok Try.prog 22 :=
  ann_ok (by kernel_rfl) (show ∀ h ∈ [OA.call 21 wainwrightref03_Is.F], OAok Try.prog h ∧ h.nat from hs_cons wainwrightref03_Is.oa wainwrightref03_Is.nat hs_nil)
theorem wainwrightref03_Count.oa : OAok Try.prog (.call 25 wainwrightref03_Count.F) := by
  refine ⟨?_, Try.f25, wainwrightref03_Count.code, Try.func25, rfl, by decide⟩
  have h := fn_sound tt_ok mix_ok (x := wainwrightref03_Count.ann) (ps := [.str, I]) (rs := ⟨22, [], [(4, .v I)]⟩) (N := 22) Try.func25 (c := wainwrightref03_Count.code) rfl rfl rfl (by decide) wainwrightref03_Count.ok (by decide)
  rw [wainwrightref03_Count.eq] at h
  exact h
theorem wainwrightref03_Count.sound : FnSound Try.prog 25 wainwrightref03_Count.F := wainwrightref03_Count.oa.1

/-! ### wainwright/wainwrightlaw03.MarksBits: function 7 -/
noncomputable def wainwrightlaw03_MarksBits : List UInt8 × Int × Bool → Option (Bool) := fun (m0, i1, yes2) =>
  (wainwrightlaw03_lives ()).bind fun r7 =>
  if (!r7) = true then
    some false
  else
    (wainwrightlaw03_early m0).bind fun r10 =>
    (marks_Is (r10, i1)).bind fun r13 =>
    (wainwrightref03_Is (r10, i1)).bind fun r16 =>
    if (r13 == r16) = true then
      (marks_Set (r10, i1, yes2)).bind fun r22 =>
      (wainwrightref03_Set (r10, i1, yes2)).bind fun r26 =>
      if (r22 == r26) = true then
        (marks_Count (r10, i1)).bind fun r32 =>
        (wainwrightref03_Count (r10, i1)).bind fun r35 =>
        some ((r32 == r35))
      else
        some false
    else
      some false

def wainwrightlaw03_MarksBits.ps : List Ty := [.str, I, .bool]
def wainwrightlaw03_MarksBits.rs : Spec := ⟨38, [], [(6, .v .bool)]⟩
noncomputable def wainwrightlaw03_MarksBits.F : Fun := mkFun [.str, I, .bool] ⟨38, [], [(6, .v .bool)]⟩ wainwrightlaw03_MarksBits
theorem wainwrightlaw03_MarksBits.nat : FunNat wainwrightlaw03_MarksBits.F := mkFun_nat _ _ _
noncomputable def wainwrightlaw03_MarksBits.ann : Ann :=
  (.seq (.reg []) (.seq (.seq (.reg [.call 18 wainwrightlaw03_lives.F]) (.cond (.seq (.reg []) .std) .std)) (.seq (.reg [.std, .call 19 wainwrightlaw03_early.F]) (.seq (.reg [.std, .std, .call 20 marks_Is.F, .std, .std, .call 21 wainwrightref03_Is.F, .std, .std, .std, .std, .std, .call 22 marks_Set.F, .std, .std, .std, .call 23 wainwrightref03_Set.F, .std, .std, .std, .std, .std, .call 24 marks_Count.F, .std, .std, .call 25 wainwrightref03_Count.F]) .std))))
noncomputable def wainwrightlaw03_MarksBits.code : Code := match Try.f7.body with | some c => c | none => .skip
theorem wainwrightlaw03_MarksBits.eq : absFn tt 38 [.str, I, .bool] ⟨38, [], [(6, .v .bool)]⟩ wainwrightlaw03_MarksBits.code wainwrightlaw03_MarksBits.ann = wainwrightlaw03_MarksBits := by
  funext a
  kernel_rfl
theorem wainwrightlaw03_MarksBits.ok : wainwrightlaw03_MarksBits.ann.ok Try.prog 38 :=
  ann_ok (by kernel_rfl) (show ∀ h ∈ [OA.call 18 wainwrightlaw03_lives.F, OA.call 19 wainwrightlaw03_early.F, OA.call 20 marks_Is.F, OA.call 21 wainwrightref03_Is.F, OA.call 22 marks_Set.F, OA.call 23 wainwrightref03_Set.F, OA.call 24 marks_Count.F, OA.call 25 wainwrightref03_Count.F], OAok Try.prog h ∧ h.nat from hs_cons wainwrightlaw03_lives.oa wainwrightlaw03_lives.nat (hs_cons wainwrightlaw03_early.oa wainwrightlaw03_early.nat (hs_cons marks_Is.oa marks_Is.nat (hs_cons wainwrightref03_Is.oa wainwrightref03_Is.nat (hs_cons marks_Set.oa marks_Set.nat (hs_cons wainwrightref03_Set.oa wainwrightref03_Set.nat (hs_cons marks_Count.oa marks_Count.nat (hs_cons wainwrightref03_Count.oa wainwrightref03_Count.nat hs_nil))))))))
theorem wainwrightlaw03_MarksBits.oa : OAok Try.prog (.call 7 wainwrightlaw03_MarksBits.F) := by
  refine ⟨?_, Try.f7, wainwrightlaw03_MarksBits.code, Try.func7, rfl, by decide⟩
  have h := fn_sound tt_ok mix_ok (x := wainwrightlaw03_MarksBits.ann) (ps := [.str, I, .bool]) (rs := ⟨38, [], [(6, .v .bool)]⟩) (N := 38) Try.func7 (c := wainwrightlaw03_MarksBits.code) rfl rfl rfl (by decide) wainwrightlaw03_MarksBits.ok (by decide)
  rw [wainwrightlaw03_MarksBits.eq] at h
  exact h
theorem wainwrightlaw03_MarksBits.sound : FnSound Try.prog 7 wainwrightlaw03_MarksBits.F := wainwrightlaw03_MarksBits.oa.1

/-! ### wainwright/wainwrightlaw03.MarksSet: function 8 -/
noncomputable def wainwrightlaw03_MarksSet.l1 : List UInt8 × Int × List UInt8 × Int → Option (List UInt8 × Int × List UInt8 × Int ⊕ (List UInt8 × Int × List UInt8) ⊕ Bool) := fun (m0, i1, x7, k8) =>
  if decide (k8 < IntKind.i64.wrap (8 * (m0.length : Int))) = true then
    if (k8 != i1) = true then
      (marks_Is (x7, k8)).bind fun r59 =>
      (marks_Is (m0, k8)).bind fun r62 =>
      if (!(r59 == r62)) = true then
        some (.inr (.inr false))
      else
        some (.inl ((m0, i1, x7, IntKind.i64.wrap (k8 + 1))))
    else
      some (.inl ((m0, i1, x7, IntKind.i64.wrap (k8 + 1))))
  else
    some (.inr (.inl ((m0, i1, x7))))

noncomputable def wainwrightlaw03_MarksSet : List UInt8 × Int × Bool → Option (Bool) := fun (m0, i1, yes2) =>
  (wainwrightlaw03_lives ()).bind fun r9 =>
  if (!r9) = true then
    some false
  else
    (wainwrightlaw03_early m0).bind fun r12 =>
    (marks_Set (r12, i1, yes2)).bind fun r16 =>
    ((
      if decide (i1 < 0) = false then
        some ((r12, i1, yes2, r16, decide (i1 ≥ IntKind.i64.wrap (8 * (r12.length : Int)))))
      else
        some ((r12, i1, yes2, r16, true))) : Option ((List UInt8 × Int × Bool × List UInt8 × Bool))).bind fun (m0, i1, yes2, x7, t25) =>
      if t25 = true then
        if (x7 == m0) = true then
          (marks_Is (m0, i1)).bind fun r32 =>
          some r32
        else
          some false
      else
        if ((x7.length : Int) != (m0.length : Int)) = false then
          (marks_Is (x7, i1)).bind fun r42 =>
          if (!(r42 == yes2)) = true then
            some false
          else
            (loopO wainwrightlaw03_MarksSet.l1 ((m0, i1, x7, 0))).bind fun d => match d with
            | .inl (m0, i1, x7) =>
              (marks_Is (m0, i1)).bind fun r69 =>
              (marks_Set (x7, i1, r69)).bind fun r70 =>
              some ((r70 == m0))
            | .inr t6 =>
              some t6
        else
          some false

def wainwrightlaw03_MarksSet.ps : List Ty := [.str, I, .bool]
def wainwrightlaw03_MarksSet.rs : Spec := ⟨73, [], [(6, .v .bool)]⟩
noncomputable def wainwrightlaw03_MarksSet.F : Fun := mkFun [.str, I, .bool] ⟨73, [], [(6, .v .bool)]⟩ wainwrightlaw03_MarksSet
theorem wainwrightlaw03_MarksSet.nat : FunNat wainwrightlaw03_MarksSet.F := mkFun_nat _ _ _
noncomputable def wainwrightlaw03_MarksSet.ann : Ann :=
  (.seq (.reg []) (.seq (.seq (.reg [.call 18 wainwrightlaw03_lives.F]) (.cond (.seq (.reg []) .std) .std)) (.seq (.reg [.std, .call 19 wainwrightlaw03_early.F]) (.seq (.reg [.std, .std, .std, .call 22 marks_Set.F]) (.seq (.join [(.norm, ⟨73, [], [(0, .v .str), (1, .v I), (2, .v .bool), (7, .v .str), (25, .v .bool)]⟩)]
  (.reg []) (.cond (.seq (.reg [.std, .std, .std, .std, .std, .std, .call 20 marks_Is.F]) .std) .std)) (.seq (.seq (.reg [.std, .std, .std, .std, .std, .std, .std, .std, .call 20 marks_Is.F]) (.cond (.seq (.reg []) .std) .std)) (.seq (.seq (.reg []) (.block (.loop ⟨73, [], [(0, .v .str), (1, .v I), (7, .v .str), (8, .v I)]⟩ [(.exit 0, ⟨73, [], [(0, .v .str), (1, .v I), (7, .v .str)]⟩), (.ret, ⟨73, [], [(6, .v .bool)]⟩)]
  (.seq (.seq (.reg []) (.cond .std .std)) (.seq (.block (.seq (.reg [.std, .std, .std, .std, .std, .std, .call 20 marks_Is.F, .std, .std, .call 20 marks_Is.F]) (.cond (.seq (.reg []) .std) .std))) (.reg [])))))) (.seq (.reg [.std, .std, .std, .std, .call 20 marks_Is.F, .call 22 marks_Set.F]) .std))))))))
noncomputable def wainwrightlaw03_MarksSet.code : Code := match Try.f8.body with | some c => c | none => .skip
theorem wainwrightlaw03_MarksSet.eq : absFn tt 73 [.str, I, .bool] ⟨73, [], [(6, .v .bool)]⟩ wainwrightlaw03_MarksSet.code wainwrightlaw03_MarksSet.ann = wainwrightlaw03_MarksSet := by
  funext a
  kernel_rfl
theorem wainwrightlaw03_MarksSet.ok : wainwrightlaw03_MarksSet.ann.ok Try.prog 73 :=
  ann_ok (by kernel_rfl) (show ∀ h ∈ [OA.call 18 wainwrightlaw03_lives.F, OA.call 19 wainwrightlaw03_early.F, OA.call 22 marks_Set.F, OA.call 20 marks_Is.F, OA.call 20 marks_Is.F, OA.call 20 marks_Is.F, OA.call 20 marks_Is.F, OA.call 20 marks_Is.F, OA.call 22 marks_Set.F], OAok Try.prog h ∧ h.nat from hs_cons wainwrightlaw03_lives.oa wainwrightlaw03_lives.nat (hs_cons wainwrightlaw03_early.oa wainwrightlaw03_early.nat (hs_cons marks_Set.oa marks_Set.nat (hs_cons marks_Is.oa marks_Is.nat (hs_cons marks_Is.oa marks_Is.nat (hs_cons marks_Is.oa marks_Is.nat (hs_cons marks_Is.oa marks_Is.nat (hs_cons marks_Is.oa marks_Is.nat (hs_cons marks_Set.oa marks_Set.nat hs_nil)))))))))
theorem wainwrightlaw03_MarksSet.oa : OAok Try.prog (.call 8 wainwrightlaw03_MarksSet.F) := by
  refine ⟨?_, Try.f8, wainwrightlaw03_MarksSet.code, Try.func8, rfl, by decide⟩
  have h := fn_sound tt_ok mix_ok (x := wainwrightlaw03_MarksSet.ann) (ps := [.str, I, .bool]) (rs := ⟨73, [], [(6, .v .bool)]⟩) (N := 73) Try.func8 (c := wainwrightlaw03_MarksSet.code) rfl rfl rfl (by decide) wainwrightlaw03_MarksSet.ok (by decide)
  rw [wainwrightlaw03_MarksSet.eq] at h
  exact h
theorem wainwrightlaw03_MarksSet.sound : FnSound Try.prog 8 wainwrightlaw03_MarksSet.F := wainwrightlaw03_MarksSet.oa.1

end Go.Proofs.Ytldmeogadmgkiaa.Abs
