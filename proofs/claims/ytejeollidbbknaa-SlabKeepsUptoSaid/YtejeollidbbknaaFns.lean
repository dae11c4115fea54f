/- The functions as the abstract machine computes them: printed by gen2.py (own work). -/
import Derived.Test.YtejeollidbbknaaAbsStrs
import Derived.Test.YtejeollidbbknaaAbsSortedKeys
import Derived.Test.YtejeollidbbknaaImageF
import Derived.Test.YtejeollidbbknaaProg
import Derived.Test.YtejeollidbbknaaAbsFn
import Derived.KernelRfl
namespace Go.Proofs.Ytejeollidbbknaa.Abs
open Go Go.Proofs
abbrev I := Ty.int .i64
set_option maxRecDepth 100000
set_option linter.unusedVariables false

def tt : Nat → TI
  | 3 => ⟨.int .i64, 1, 8, [.int .i64 0]⟩
  | 4 => ⟨.bool, 1, 1, [.bool false]⟩
  | 5 => ⟨.int .u8, 1, 1, [.int .u8 0]⟩
  | 9 => ⟨.str, 1, 16, [.string .empty]⟩
  | 22 => ⟨.sl 9, 1, 24, [.slice none 0 0]⟩
  | 24 => ⟨.ptr 56, 1, 8, [.pointer none]⟩
  | 33 => ⟨.sl 4, 1, 24, [.slice none 0 0]⟩
  | 35 => ⟨.st [(22, 0), (22, 1), (33, 2), (3, 3), (3, 4)], 5, 88, [.slice none 0 0, .slice none 0 0, .slice none 0 0, .int .i64 0, .int .i64 0]⟩
  | 38 => ⟨.sl 3, 1, 24, [.slice none 0 0]⟩
  | 41 => ⟨.sl 46, 1, 24, [.slice none 0 0]⟩
  | 43 => ⟨.int .u64, 1, 8, [.int .u64 0]⟩
  | 46 => ⟨.st [(3, 0), (3, 1), (9, 2), (33, 3)], 4, 56, [.int .i64 0, .int .i64 0, .string .empty, .slice none 0 0]⟩
  | 47 => ⟨.int .i64, 1, 8, [.int .i64 0]⟩
  | 54 => ⟨.map 3 9, 1, 8, [.map none]⟩
  | 56 => ⟨.st [(22, 0), (54, 1), (3, 2), (3, 3)], 4, 48, [.slice none 0 0, .map none, .int .i64 0, .int .i64 0]⟩
  | 66 => ⟨.sl 5, 1, 24, [.slice none 0 0]⟩
  | _ => ⟨.other, 0, 0, []⟩
theorem tt_ok : TTok Try.prog tt := by
  intro t
  unfold tt
  split
  · exact .inr (ti_ok (d := .int .i64) (by kernel_rfl) (by simp [TK.fits]) (by kernel_rfl))
  · exact .inr (ti_ok (d := .bool) (by kernel_rfl) (by simp [TK.fits]) (by kernel_rfl))
  · exact .inr (ti_ok (d := .int .u8) (by kernel_rfl) (by simp [TK.fits]) (by kernel_rfl))
  · exact .inr (ti_ok (d := .string) (by kernel_rfl) (by simp [TK.fits]) (by kernel_rfl))
  · exact .inr (ti_ok (d := .slice 9) (by kernel_rfl) (by simp [TK.fits]) (by kernel_rfl))
  · exact .inr (ti_ok (d := .pointer 56) (by kernel_rfl) (by simp [TK.fits]) (by kernel_rfl))
  · exact .inr (ti_ok (d := .slice 4) (by kernel_rfl) (by simp [TK.fits]) (by kernel_rfl))
  · exact .inr (ti_ok_st (by kernel_rfl) (by kernel_rfl))
  · exact .inr (ti_ok (d := .slice 3) (by kernel_rfl) (by simp [TK.fits]) (by kernel_rfl))
  · exact .inr (ti_ok (d := .slice 46) (by kernel_rfl) (by simp [TK.fits]) (by kernel_rfl))
  · exact .inr (ti_ok (d := .int .u64) (by kernel_rfl) (by simp [TK.fits]) (by kernel_rfl))
  · exact .inr (ti_ok_st (by kernel_rfl) (by kernel_rfl))
  · exact .inr (ti_ok (d := .int .i64) (by kernel_rfl) (by simp [TK.fits]) (by kernel_rfl))
  · exact .inr (ti_ok (d := .map 3 9) (by kernel_rfl) (by simp [TK.fits]) (by kernel_rfl))
  · exact .inr (ti_ok_st (by kernel_rfl) (by kernel_rfl))
  · exact .inr (ti_ok (d := .slice 5) (by kernel_rfl) (by simp [TK.fits]) (by kernel_rfl))
  · exact .inl rfl
theorem mix_ok : Try.prog.follows .mixedOrders = true := by kernel_rfl

/-! ### wainwright/mould.fits: function 39 -/
noncomputable def mould_fits : (List UInt8 × Int) → Option (Int) := fun (s0, n1) =>
  ((
    if decide (n1 < 0) = false then
      some (((s0, n1, decide (n1 > 1000))))
    else
      some (((s0, n1, true)))) : Option (List UInt8 × Int × Bool)).bind fun (s0, n1, t5) =>
    if t5 = true then
      some 1
    else
      if decide ((s0.length : Int) > n1) = true then
        some 3
      else
        some 0

def mould_fits.ins : Spec := ⟨17, 0, [], [0, 1], (.cons (.v .str) (.cons (.v I) .nil))⟩
def mould_fits.outs : List Spec := [⟨17, 0, [], [4], (.cons (.v I) .nil)⟩]
noncomputable def mould_fits.c : Callee' := ⟨39, mkFits mould_fits.ins mould_fits.outs, mkFun mould_fits.ins mould_fits.outs mould_fits⟩
theorem mould_fits.quiet : FunQuiet mould_fits.c.F := mkFun_quiet rfl rfl
noncomputable def mould_fits.ann : Ann :=
  (.seq (.reg []) (.seq (.block (.join [(.norm, ⟨17, 0, [], [0, 1, 5], (.cons (.v .str) (.cons (.v I) (.cons (.v .bool) .nil)))⟩)]
  (.reg []) (.cond (.seq (.reg []) .std) (.seq (.reg []) (.cond (.seq (.reg []) .std) .std))))) (.seq (.reg []) .std)))
noncomputable def mould_fits.code : Code := match Try.f39.body with | some c => c | none => .skip
theorem mould_fits.eq : absFn tt 17 mould_fits.ins mould_fits.outs mould_fits.code mould_fits.ann = mould_fits := by
  funext a
  kernel_rfl
theorem mould_fits.ok : mould_fits.ann.ok Try.prog 0 17 :=
  ann_ok (by kernel_rfl) (by kernel_rfl) (show ∀ c ∈ ([] : List Callee'), c.ok Try.prog from cs_nil)
    (show ∀ c ∈ ([] : List Callee'), FunQuiet c.F from cs_nil)
theorem mould_fits.sound : mould_fits.c.ok Try.prog := by
  refine ⟨?_, Try.f39, mould_fits.code, Try.func39, rfl, by decide⟩
  have h := fn_sound tt_ok mix_ok (x := mould_fits.ann) (ins := mould_fits.ins) (outs := mould_fits.outs) (N := 17) Try.func39 (c := mould_fits.code) rfl rfl (by kernel_rfl) (by kernel_rfl) mould_fits.ok (by decide)
  rw [mould_fits.eq] at h
  exact h

/-! ### wainwright/mould.Pad: function 35 -/
noncomputable def mould_Pad : (List UInt8 × Int) → Option (List UInt8 × Int) := fun (s0, n1) =>
  (mould_fits (s0, n1)).bind fun r9 =>
    if (r9 != 0) = true then
      some ((([], r9)))
    else
      (strings_Repeat (([0] : List UInt8), IntKind.i64.wrap (n1 - (s0.length : Int)))).bind fun r18 =>
        if s0.length + r18.length ≤ 9223372036854775807 then
          some (((s0 ++ r18, 0)))
        else none

def mould_Pad.ins : Spec := ⟨20, 0, [], [0, 1], (.cons (.v .str) (.cons (.v I) .nil))⟩
def mould_Pad.outs : List Spec := [⟨20, 0, [], [4, 5], (.cons (.v .str) (.cons (.v I) .nil))⟩]
noncomputable def mould_Pad.c : Callee' := ⟨35, mkFits mould_Pad.ins mould_Pad.outs, mkFun mould_Pad.ins mould_Pad.outs mould_Pad⟩
theorem mould_Pad.quiet : FunQuiet mould_Pad.c.F := mkFun_quiet rfl rfl
noncomputable def mould_Pad.ann : Ann :=
  (.seq (.reg []) (.seq (.seq (.reg [.std, .std, .callq [mould_fits.c]]) (.seq (.reg []) (.cond (.seq (.reg []) .std) .std))) (.seq (.reg [.std, .std, .std, .std, .std, .callq [strings_Repeat.c]]) .std)))
noncomputable def mould_Pad.code : Code := match Try.f35.body with | some c => c | none => .skip
theorem mould_Pad.eq : absFn tt 20 mould_Pad.ins mould_Pad.outs mould_Pad.code mould_Pad.ann = mould_Pad := by
  funext a
  kernel_rfl
theorem mould_Pad.ok : mould_Pad.ann.ok Try.prog 0 20 :=
  ann_ok (by kernel_rfl) (by kernel_rfl) (show ∀ c ∈ ([mould_fits.c, strings_Repeat.c] : List Callee'), c.ok Try.prog from cs_cons mould_fits.sound (cs_cons strings_Repeat.sound cs_nil))
    (show ∀ c ∈ ([mould_fits.c, strings_Repeat.c] : List Callee'), FunQuiet c.F from cs_cons mould_fits.quiet (cs_cons strings_Repeat.quiet cs_nil))
theorem mould_Pad.sound : mould_Pad.c.ok Try.prog := by
  refine ⟨?_, Try.f35, mould_Pad.code, Try.func35, rfl, by decide⟩
  have h := fn_sound tt_ok mix_ok (x := mould_Pad.ann) (ins := mould_Pad.ins) (outs := mould_Pad.outs) (N := 20) Try.func35 (c := mould_Pad.code) rfl rfl (by kernel_rfl) (by kernel_rfl) mould_Pad.ok (by decide)
  rw [mould_Pad.eq] at h
  exact h

/-! ### wainwright/slab.whole: function 25 -/
noncomputable def slab_whole : List UInt8 → Option (List UInt8) := fun s0 =>
  if 0 ≤ (if 128 < (s0.length : Int) then 128 else (s0.length : Int)) ∧ (if 128 < (s0.length : Int) then 128 else (s0.length : Int)) ≤ (s0.length : Int) then
    (mould_Pad (s0.take ((if 128 < (s0.length : Int) then 128 else (s0.length : Int))).toNat, 128)).bind fun (r11, r11_2) =>
      some r11
  else none

def slab_whole.ins : Spec := ⟨15, 0, [], [0], (.cons (.v .str) .nil)⟩
def slab_whole.outs : List Spec := [⟨15, 0, [], [2], (.cons (.v .str) .nil)⟩]
noncomputable def slab_whole.c : Callee' := ⟨25, mkFits slab_whole.ins slab_whole.outs, mkFun slab_whole.ins slab_whole.outs slab_whole⟩
theorem slab_whole.quiet : FunQuiet slab_whole.c.F := mkFun_quiet rfl rfl
noncomputable def slab_whole.ann : Ann :=
  (.seq (.reg []) (.seq (.reg [.std, .std, .std, .std, .std, .callq [mould_Pad.c]]) (.seq (.reg []) .std)))
noncomputable def slab_whole.code : Code := match Try.f25.body with | some c => c | none => .skip
theorem slab_whole.eq : absFn tt 15 slab_whole.ins slab_whole.outs slab_whole.code slab_whole.ann = slab_whole := by
  funext a
  kernel_rfl
theorem slab_whole.ok : slab_whole.ann.ok Try.prog 0 15 :=
  ann_ok (by kernel_rfl) (by kernel_rfl) (show ∀ c ∈ ([mould_Pad.c] : List Callee'), c.ok Try.prog from cs_cons mould_Pad.sound cs_nil)
    (show ∀ c ∈ ([mould_Pad.c] : List Callee'), FunQuiet c.F from cs_cons mould_Pad.quiet cs_nil)
theorem slab_whole.sound : slab_whole.c.ok Try.prog := by
  refine ⟨?_, Try.f25, slab_whole.code, Try.func25, rfl, by decide⟩
  have h := fn_sound tt_ok mix_ok (x := slab_whole.ann) (ins := slab_whole.ins) (outs := slab_whole.outs) (N := 15) Try.func25 (c := slab_whole.code) rfl rfl (by kernel_rfl) (by kernel_rfl) slab_whole.ok (by decide)
  rw [slab_whole.eq] at h
  exact h

/-! ### wainwright/slab.Load: function 8 -/
noncomputable def slab_Load.l1 : (((Int × Int) × List (List UInt8) × List (Int × List UInt8)) × List (List UInt8) × Int × Int) → Option ((((Int × Int) × List (List UInt8) × List (Int × List UInt8)) × List (List UInt8) × Int × Int) ⊕ ((Int × Int) × List (List UInt8) × List (Int × List UInt8))) := fun (((s3c, s3d), o1, o2), t13, t14, t15) =>
  if decide (t15 < t14) = true then
    if 0 ≤ t15 ∧ t15 < (t13.length : Int) then
      (slab_whole (t13.getD t15.toNat [])).bind fun r25 =>
        if roomOk (o1.length + (([r25] : List (List UInt8))).length) 16 then
          some (.inl ((((s3c, s3d), o1 ++ (([r25] : List (List UInt8))), o2), t13, t14, IntKind.i64.wrap (t15 + 1))))
        else none
    else none
  else
    some (.inr ((((s3c, s3d), o1, o2))))

noncomputable def slab_Load : List (List UInt8) → Option ((Int × Int) × List (List UInt8) × List (Int × List UInt8)) := fun image0 =>
  if 0 ≤ (if 1000 < (image0.length : Int) then 1000 else (image0.length : Int)) ∧ (if 1000 < (image0.length : Int) then 1000 else (image0.length : Int)) ≤ (image0.length : Int) then
    (loopO slab_Load.l1 ((((0, (-1)), [], ([] : List (Int × List UInt8))), image0.take ((if 1000 < (image0.length : Int) then 1000 else (image0.length : Int))).toNat, ((image0.take ((if 1000 < (image0.length : Int) then 1000 else (image0.length : Int))).toNat).length : Int), 0))).bind fun ((s3c, s3d), o1, o2) =>
      some ((((s3c, s3d), o1, o2)))
  else none

def slab_Load.ins : Spec := ⟨32, 0, [], [0], (.cons (.v (.sl .str)) .nil)⟩
def slab_Load.outs : List Spec := [⟨32, 0, [.box (.cons (.ref 1) (.cons (.ref 2) (.cons (.v I) (.cons (.v I) .nil)))), .arr .str, .map I .str], [2], (.cons (.ref 0) .nil)⟩]
noncomputable def slab_Load.c : Callee' := ⟨8, mkFits slab_Load.ins slab_Load.outs, mkFun slab_Load.ins slab_Load.outs slab_Load⟩
noncomputable def slab_Load.ann : Ann :=
  (.seq (.reg []) (.seq (.reg [.mp I .str]) (.seq (.seq (.reg []) (.block (.loop ⟨32, 0, [.box (.cons (.ref 1) (.cons (.ref 2) (.cons (.v I) (.cons (.v I) .nil)))), .arr .str, .map I .str], [3, 13, 14, 15], (.cons (.ref 0) (.cons (.v (.sl .str)) (.cons (.v I) (.cons (.v I) .nil))))⟩ [(.exit 0, ⟨32, 0, [.box (.cons (.ref 1) (.cons (.ref 2) (.cons (.v I) (.cons (.v I) .nil)))), .arr .str, .map I .str], [3], (.cons (.ref 0) .nil)⟩)]
  (.seq (.reg []) (.seq (.cond .std .std) (.seq (.block (.seq (.reg []) (.drw [.std, .std, .std, .std, .std, .std, .callq [slab_whole.c], .inl .str, .obj .str]))) (.reg []))))))) (.seq (.reg []) .std))))
noncomputable def slab_Load.code : Code := match Try.f8.body with | some c => c | none => .skip
theorem slab_Load.eq : absFn tt 32 slab_Load.ins slab_Load.outs slab_Load.code slab_Load.ann = slab_Load := by
  funext a
  kernel_rfl
theorem slab_Load.ok : slab_Load.ann.ok Try.prog 0 32 :=
  ann_ok (by kernel_rfl) (by kernel_rfl) (show ∀ c ∈ ([slab_whole.c] : List Callee'), c.ok Try.prog from cs_cons slab_whole.sound cs_nil)
    (show ∀ c ∈ ([slab_whole.c] : List Callee'), FunQuiet c.F from cs_cons slab_whole.quiet cs_nil)
theorem slab_Load.sound : slab_Load.c.ok Try.prog := by
  refine ⟨?_, Try.f8, slab_Load.code, Try.func8, rfl, by decide⟩
  have h := fn_sound tt_ok mix_ok (x := slab_Load.ann) (ins := slab_Load.ins) (outs := slab_Load.outs) (N := 32) Try.func8 (c := slab_Load.code) rfl rfl (by kernel_rfl) (by kernel_rfl) slab_Load.ok (by decide)
  rw [slab_Load.eq] at h
  exact h

/-! ### wainwright/slab.New: function 11 -/
noncomputable def slab_New : Int → Option ((Int × Int) × List (List UInt8) × List (Int × List UInt8)) := fun n0 =>
  if 0 ≤ (if 1000 < (if 0 > n0 then 0 else n0) then 1000 else (if 0 > n0 then 0 else n0)) ∧ (if 1000 < (if 0 > n0 then 0 else n0) then 1000 else (if 0 > n0 then 0 else n0)) ≤ (if 1000 < (if 0 > n0 then 0 else n0) then 1000 else (if 0 > n0 then 0 else n0)) ∧ (if 1000 < (if 0 > n0 then 0 else n0) then 1000 else (if 0 > n0 then 0 else n0)) * (16 : Nat) ≤ 140737488355328 ∧ (if 1000 < (if 0 > n0 then 0 else n0) then 1000 else (if 0 > n0 then 0 else n0)) ≤ 9223372036854775807 then
    (slab_Load (List.replicate ((if 1000 < (if 0 > n0 then 0 else n0) then 1000 else (if 0 > n0 then 0 else n0))).toNat ([] : List UInt8))).bind fun ((r7, r7_2), r7_3, r7_4) =>
      some ((((r7, r7_2), r7_3, r7_4)))
  else none

def slab_New.ins : Spec := ⟨8, 0, [], [0], (.cons (.v I) .nil)⟩
def slab_New.outs : List Spec := [⟨8, 0, [.box (.cons (.ref 1) (.cons (.ref 2) (.cons (.v I) (.cons (.v I) .nil)))), .arr .str, .map I .str], [2], (.cons (.ref 0) .nil)⟩]
noncomputable def slab_New.c : Callee' := ⟨11, mkFits slab_New.ins slab_New.outs, mkFun slab_New.ins slab_New.outs slab_New⟩
noncomputable def slab_New.ann : Ann :=
  (.seq (.reg []) (.seq (.reg [.std, .std, .std, .obj .str, .call [slab_Load.c]]) .std))
noncomputable def slab_New.code : Code := match Try.f11.body with | some c => c | none => .skip
theorem slab_New.eq : absFn tt 8 slab_New.ins slab_New.outs slab_New.code slab_New.ann = slab_New := by
  funext a
  kernel_rfl
theorem slab_New.ok : slab_New.ann.ok Try.prog 0 8 :=
  ann_ok (by kernel_rfl) (by kernel_rfl) (show ∀ c ∈ ([slab_Load.c] : List Callee'), c.ok Try.prog from cs_cons slab_Load.sound cs_nil)
    (show ∀ c ∈ ([] : List Callee'), FunQuiet c.F from cs_nil)
theorem slab_New.sound : slab_New.c.ok Try.prog := by
  refine ⟨?_, Try.f11, slab_New.code, Try.func11, rfl, by decide⟩
  have h := fn_sound tt_ok mix_ok (x := slab_New.ann) (ins := slab_New.ins) (outs := slab_New.outs) (N := 8) Try.func11 (c := slab_New.code) rfl rfl (by kernel_rfl) (by kernel_rfl) slab_New.ok (by decide)
  rw [slab_New.eq] at h
  exact h

/-! ### (*wainwright/slab.Slab).call: function 33 -/
noncomputable def slab_Slab_call : ((Int × Int) × List (List UInt8) × List (Int × List UInt8)) → Option (((Int × Int) × List (List UInt8) × List (Int × List UInt8)) × Int) := fun ((s0c, s0d), o1, o2) =>
  ((
    if (s0d == 0) = true then
      some (.inr (((((IntKind.i64.wrap (s0c + 1), s0d), o1, o2), 14))))
    else
      if decide (s0d > 0) = true then
        some (.inl (((s0c, IntKind.i64.wrap (s0d - 1)), o1, o2)))
      else
        some (.inl (((s0c, s0d), o1, o2)))) : Option (((Int × Int) × List (List UInt8) × List (Int × List UInt8)) ⊕ (((Int × Int) × List (List UInt8) × List (Int × List UInt8)) × Int))).bind fun d => match d with
  | .inl ((s0c, s0d), o1, o2) =>
    some (((((IntKind.i64.wrap (s0c + 1), s0d), o1, o2), 0)))
  | .inr ((((o0c, o0d), o1, o2), t2)) =>
    some (((((o0c, o0d), o1, o2), t2)))

def slab_Slab_call.ins : Spec := ⟨39, 0, [.box (.cons (.ref 1) (.cons (.ref 2) (.cons (.v I) (.cons (.v I) .nil)))), .arr .str, .map I .str], [0], (.cons (.ref 0) .nil)⟩
def slab_Slab_call.outs : List Spec := [⟨39, 3, [.box (.cons (.ref 1) (.cons (.ref 2) (.cons (.v I) (.cons (.v I) .nil)))), .arr .str, .map I .str], [2], (.cons (.v I) .nil)⟩]
noncomputable def slab_Slab_call.c : Callee' := ⟨33, mkFits slab_Slab_call.ins slab_Slab_call.outs, mkFun slab_Slab_call.ins slab_Slab_call.outs slab_Slab_call⟩
noncomputable def slab_Slab_call.ann : Ann :=
  (.seq (.reg []) (.join [(.norm, ⟨39, 3, [.box (.cons (.ref 1) (.cons (.ref 2) (.cons (.v I) (.cons (.v I) .nil)))), .arr .str, .map I .str], [0], (.cons (.ref 0) .nil)⟩), (.ret, ⟨39, 3, [.box (.cons (.ref 1) (.cons (.ref 2) (.cons (.v I) (.cons (.v I) .nil)))), .arr .str, .map I .str], [2], (.cons (.v I) .nil)⟩)]
  (.block (.seq (.reg [.std, .obj .bool]) (.cond (.seq (.reg []) .std) (.seq (.reg []) (.cond (.seq (.reg []) (.seq (.reg []) .std)) (.seq (.reg []) (.cond (.reg []) .std))))))) (.seq (.reg []) (.seq (.reg []) .std))))
noncomputable def slab_Slab_call.code : Code := match Try.f33.body with | some c => c | none => .skip
theorem slab_Slab_call.eq : absFn tt 39 slab_Slab_call.ins slab_Slab_call.outs slab_Slab_call.code slab_Slab_call.ann = slab_Slab_call := by
  funext a
  kernel_rfl
theorem slab_Slab_call.ok : slab_Slab_call.ann.ok Try.prog 3 39 :=
  ann_ok (by kernel_rfl) (by kernel_rfl) (show ∀ c ∈ ([] : List Callee'), c.ok Try.prog from cs_nil)
    (show ∀ c ∈ ([] : List Callee'), FunQuiet c.F from cs_nil)
theorem slab_Slab_call.sound : slab_Slab_call.c.ok Try.prog := by
  refine ⟨?_, Try.f33, slab_Slab_call.code, Try.func33, rfl, by decide⟩
  have h := fn_sound tt_ok mix_ok (x := slab_Slab_call.ann) (ins := slab_Slab_call.ins) (outs := slab_Slab_call.outs) (N := 39) Try.func33 (c := slab_Slab_call.code) rfl rfl (by kernel_rfl) (by kernel_rfl) slab_Slab_call.ok (by decide)
  rw [slab_Slab_call.eq] at h
  exact h

/-! ### (*wainwright/slab.Slab).there: function 30 -/
noncomputable def slab_Slab_there : ((List (List UInt8) × (List (Int × List UInt8)) × Int × Int) × Int) → Option (Bool) := fun (s0, i1) =>
  if decide (i1 ≥ 0) = true then
    some ((decide (i1 < (s0.1.length : Int))))
  else
    some false

def slab_Slab_there.ins : Spec := ⟨20, 0, [], [0, 1], (.cons (.v (.ptr (.pair (.sl .str) (.pair (.map I .str) (.pair I I))))) (.cons (.v I) .nil))⟩
def slab_Slab_there.outs : List Spec := [⟨20, 0, [], [4], (.cons (.v .bool) .nil)⟩]
noncomputable def slab_Slab_there.c : Callee' := ⟨30, mkFits slab_Slab_there.ins slab_Slab_there.outs, mkFun slab_Slab_there.ins slab_Slab_there.outs slab_Slab_there⟩
theorem slab_Slab_there.quiet : FunQuiet slab_Slab_there.c.F := mkFun_quiet rfl rfl
noncomputable def slab_Slab_there.ann : Ann :=
  (.seq (.reg []) (.seq (.reg [.std, .obj .bool]) .std))
noncomputable def slab_Slab_there.code : Code := match Try.f30.body with | some c => c | none => .skip
theorem slab_Slab_there.eq : absFn tt 20 slab_Slab_there.ins slab_Slab_there.outs slab_Slab_there.code slab_Slab_there.ann = slab_Slab_there := by
  funext a
  kernel_rfl
theorem slab_Slab_there.ok : slab_Slab_there.ann.ok Try.prog 0 20 :=
  ann_ok (by kernel_rfl) (by kernel_rfl) (show ∀ c ∈ ([] : List Callee'), c.ok Try.prog from cs_nil)
    (show ∀ c ∈ ([] : List Callee'), FunQuiet c.F from cs_nil)
theorem slab_Slab_there.sound : slab_Slab_there.c.ok Try.prog := by
  refine ⟨?_, Try.f30, slab_Slab_there.code, Try.func30, rfl, by decide⟩
  have h := fn_sound tt_ok mix_ok (x := slab_Slab_there.ann) (ins := slab_Slab_there.ins) (outs := slab_Slab_there.outs) (N := 20) Try.func30 (c := slab_Slab_there.code) rfl rfl (by kernel_rfl) (by kernel_rfl) slab_Slab_there.ok (by decide)
  rw [slab_Slab_there.eq] at h
  exact h

/-! ### (*wainwright/slab.Slab).Write: function 23 -/
noncomputable def slab_Slab_Write : (((Int × Int) × List (List UInt8) × List (Int × List UInt8)) × Int × List UInt8) → Option (((Int × Int) × List (List UInt8) × List (Int × List UInt8)) × Int) := fun (((s0c, s0d), o1, o2), i1, data2) =>
  (slab_Slab_call ((s0c, s0d), o1, o2)).bind fun (((r9, r9_2), r9_3, r9_4), r9_5) =>
    if (r9_5 != 0) = true then
      some (((((r9, r9_2), r9_3, r9_4), r9_5)))
    else
      (slab_Slab_there ((r9_3, r9_4, r9, r9_2), i1)).bind fun r15 =>
        if (!r15) = false then
          if decide ((data2.length : Int) > 128) = true then
            some (((((r9, r9_2), r9_3, r9_4), 1)))
          else
            (slab_whole data2).bind fun r28 =>
              some (((((r9, r9_2), r9_3, mput (K := I) (V := .str) r9_4 i1 r28), 0)))
        else
          some (((((r9, r9_2), r9_3, r9_4), 1)))

def slab_Slab_Write.ins : Spec := ⟨29, 0, [.box (.cons (.ref 1) (.cons (.ref 2) (.cons (.v I) (.cons (.v I) .nil)))), .arr .str, .map I .str], [0, 1, 2], (.cons (.ref 0) (.cons (.v I) (.cons (.v .str) .nil)))⟩
def slab_Slab_Write.outs : List Spec := [⟨29, 3, [.box (.cons (.ref 1) (.cons (.ref 2) (.cons (.v I) (.cons (.v I) .nil)))), .arr .str, .map I .str], [6], (.cons (.v I) .nil)⟩]
noncomputable def slab_Slab_Write.c : Callee' := ⟨23, mkFits slab_Slab_Write.ins slab_Slab_Write.outs, mkFun slab_Slab_Write.ins slab_Slab_Write.outs slab_Slab_Write⟩
noncomputable def slab_Slab_Write.ann : Ann :=
  (.seq (.reg []) (.seq (.seq (.reg [.std, .call [slab_Slab_call.c]]) (.seq (.reg []) (.cond (.seq (.reg []) .std) .std))) (.seq (.seq (.reg [.std, .std, .callq [slab_Slab_there.c]]) (.cond (.seq (.reg []) .std) .std)) (.seq (.drw [.std, .std, .std, .std, .std, .std, .callq [slab_whole.c]]) (.seq (.reg []) .std)))))
noncomputable def slab_Slab_Write.code : Code := match Try.f23.body with | some c => c | none => .skip
theorem slab_Slab_Write.eq : absFn tt 29 slab_Slab_Write.ins slab_Slab_Write.outs slab_Slab_Write.code slab_Slab_Write.ann = slab_Slab_Write := by
  funext a
  kernel_rfl
theorem slab_Slab_Write.ok : slab_Slab_Write.ann.ok Try.prog 3 29 :=
  ann_ok (by kernel_rfl) (by kernel_rfl) (show ∀ c ∈ ([slab_Slab_call.c, slab_Slab_there.c, slab_whole.c] : List Callee'), c.ok Try.prog from cs_cons slab_Slab_call.sound (cs_cons slab_Slab_there.sound (cs_cons slab_whole.sound cs_nil)))
    (show ∀ c ∈ ([slab_Slab_there.c, slab_whole.c] : List Callee'), FunQuiet c.F from cs_cons slab_Slab_there.quiet (cs_cons slab_whole.quiet cs_nil))
theorem slab_Slab_Write.sound : slab_Slab_Write.c.ok Try.prog := by
  refine ⟨?_, Try.f23, slab_Slab_Write.code, Try.func23, rfl, by decide⟩
  have h := fn_sound tt_ok mix_ok (x := slab_Slab_Write.ann) (ins := slab_Slab_Write.ins) (outs := slab_Slab_Write.outs) (N := 29) Try.func23 (c := slab_Slab_Write.code) rfl rfl (by kernel_rfl) (by kernel_rfl) slab_Slab_Write.ok (by decide)
  rw [slab_Slab_Write.eq] at h
  exact h

/-! ### maps.Keys[map[int]string,int,string]: function 32 -/
noncomputable def maps_Keys_map_int_string_int_string : (List (Int × List UInt8)) → Option (List (Int × List UInt8)) := fun m0 =>
  some m0

def maps_Keys_map_int_string_int_string.ins : Spec := ⟨4, 0, [.map I .str], [0], (.cons (.ref 0) .nil)⟩
def maps_Keys_map_int_string_int_string.outs : List Spec := [⟨4, 1, [.map I .str, .box (.cons (.ref 0) .nil)], [2], (.cons (.fn (.func 38) .nil (.cons (.ref 1) .nil)) .nil)⟩]
noncomputable def maps_Keys_map_int_string_int_string.c : Callee' := ⟨32, mkFits maps_Keys_map_int_string_int_string.ins maps_Keys_map_int_string_int_string.outs, mkFun maps_Keys_map_int_string_int_string.ins maps_Keys_map_int_string_int_string.outs maps_Keys_map_int_string_int_string⟩
noncomputable def maps_Keys_map_int_string_int_string.ann : Ann :=
  (.seq (.reg []) (.seq (.reg []) .std))
noncomputable def maps_Keys_map_int_string_int_string.code : Code := match Try.f32.body with | some c => c | none => .skip
theorem maps_Keys_map_int_string_int_string.eq : absFn tt 4 maps_Keys_map_int_string_int_string.ins maps_Keys_map_int_string_int_string.outs maps_Keys_map_int_string_int_string.code maps_Keys_map_int_string_int_string.ann = maps_Keys_map_int_string_int_string := by
  funext a
  kernel_rfl
theorem maps_Keys_map_int_string_int_string.ok : maps_Keys_map_int_string_int_string.ann.ok Try.prog 1 4 :=
  ann_ok (by kernel_rfl) (by kernel_rfl) (show ∀ c ∈ ([] : List Callee'), c.ok Try.prog from cs_nil)
    (show ∀ c ∈ ([] : List Callee'), FunQuiet c.F from cs_nil)
theorem maps_Keys_map_int_string_int_string.sound : maps_Keys_map_int_string_int_string.c.ok Try.prog := by
  refine ⟨?_, Try.f32, maps_Keys_map_int_string_int_string.code, Try.func32, rfl, by decide⟩
  have h := fn_sound tt_ok mix_ok (x := maps_Keys_map_int_string_int_string.ann) (ins := maps_Keys_map_int_string_int_string.ins) (outs := maps_Keys_map_int_string_int_string.outs) (N := 4) Try.func32 (c := maps_Keys_map_int_string_int_string.code) rfl rfl (by kernel_rfl) (by kernel_rfl) maps_Keys_map_int_string_int_string.ok (by decide)
  rw [maps_Keys_map_int_string_int_string.eq] at h
  exact h

/-! ### (*wainwright/slab.Slab).Loose: function 17 -/
noncomputable def slab_Slab_Loose : ((Int × Int) × List (List UInt8) × List (Int × List UInt8)) → Option (((Int × Int) × List (List UInt8) × List (Int × List UInt8)) × List Int) := fun ((s0c, s0d), o1, o2) =>
  (maps_Keys_map_int_string_int_string o2).bind fun r9 =>
    (slices_Sorted r9).bind fun (r10, r10_2) =>
      some (((((s0c, s0d), o1, r10), r10_2)))

def slab_Slab_Loose.ins : Spec := ⟨11, 0, [.box (.cons (.ref 1) (.cons (.ref 2) (.cons (.v I) (.cons (.v I) .nil)))), .arr .str, .map I .str], [0], (.cons (.ref 0) .nil)⟩
def slab_Slab_Loose.outs : List Spec := [⟨11, 3, [.box (.cons (.ref 1) (.cons (.ref 2) (.cons (.v I) (.cons (.v I) .nil)))), .arr .str, .map I .str], [2], (.cons (.v (.sl I)) .nil)⟩]
noncomputable def slab_Slab_Loose.c : Callee' := ⟨17, mkFits slab_Slab_Loose.ins slab_Slab_Loose.outs, mkFun slab_Slab_Loose.ins slab_Slab_Loose.outs slab_Slab_Loose⟩
noncomputable def slab_Slab_Loose.ann : Ann :=
  (.seq (.reg []) (.seq (.seq (.reg [.std, .obj .bool]) (.cond (.seq (.reg []) .std) .std)) (.seq (.reg [.std, .std, .std, .std, .call [maps_Keys_map_int_string_int_string.c], .call [slices_Sorted.c]]) .std)))
noncomputable def slab_Slab_Loose.code : Code := match Try.f17.body with | some c => c | none => .skip
theorem slab_Slab_Loose.eq : absFn tt 11 slab_Slab_Loose.ins slab_Slab_Loose.outs slab_Slab_Loose.code slab_Slab_Loose.ann = slab_Slab_Loose := by
  funext a
  kernel_rfl
theorem slab_Slab_Loose.ok : slab_Slab_Loose.ann.ok Try.prog 3 11 :=
  ann_ok (by kernel_rfl) (by kernel_rfl) (show ∀ c ∈ ([maps_Keys_map_int_string_int_string.c, slices_Sorted.c] : List Callee'), c.ok Try.prog from cs_cons maps_Keys_map_int_string_int_string.sound (cs_cons slices_Sorted.sound cs_nil))
    (show ∀ c ∈ ([] : List Callee'), FunQuiet c.F from cs_nil)
theorem slab_Slab_Loose.sound : slab_Slab_Loose.c.ok Try.prog := by
  refine ⟨?_, Try.f17, slab_Slab_Loose.code, Try.func17, rfl, by decide⟩
  have h := fn_sound tt_ok mix_ok (x := slab_Slab_Loose.ann) (ins := slab_Slab_Loose.ins) (outs := slab_Slab_Loose.outs) (N := 11) Try.func17 (c := slab_Slab_Loose.code) rfl rfl (by kernel_rfl) (by kernel_rfl) slab_Slab_Loose.ok (by decide)
  rw [slab_Slab_Loose.eq] at h
  exact h

theorem slab_Slab_Loose.quiet : FunQuiet slab_Slab_Loose.c.F := slab_quiet (n := 11) (m := 11) (is := [0]) (os := [2]) (so := (.cons (.v (.sl I)) .nil)) slab_Slab_Loose fun (x : (Int × Int) × List (List UInt8) × List (Int × List UInt8)) (y : ((Int × Int) × List (List UInt8) × List (Int × List UInt8)) × List Int) h => by
  obtain ⟨⟨c, u⟩, xs, es⟩ := x
  change ((slices_Sorted es).bind fun q => some (((c, u), xs, q.1), q.2)) = some y at h
  obtain ⟨q, h1, h2⟩ := Option.bind_eq_some_iff.1 h
  unfold slices_Sorted at h1
  split at h1
  · rw [← Option.some.inj h2, ← Option.some.inj h1]
    rfl
  · cases h1

/-! ### (*wainwright/slab.Slab).Flush$1: function 34 -/
noncomputable def slab_Slab_Flush_1 : Int → Option (Bool) := fun t0 =>
  some true

def slab_Slab_Flush_1.ins : Spec := ⟨3, 0, [], [0], (.cons (.v I) .nil)⟩
def slab_Slab_Flush_1.outs : List Spec := [⟨3, 0, [], [2], (.cons (.v .bool) .nil)⟩]
noncomputable def slab_Slab_Flush_1.c : Callee' := ⟨34, mkFits slab_Slab_Flush_1.ins slab_Slab_Flush_1.outs, mkFun slab_Slab_Flush_1.ins slab_Slab_Flush_1.outs slab_Slab_Flush_1⟩
theorem slab_Slab_Flush_1.quiet : FunQuiet slab_Slab_Flush_1.c.F := mkFun_quiet rfl rfl
noncomputable def slab_Slab_Flush_1.ann : Ann :=
  (.seq (.reg []) (.seq (.reg []) .std))
noncomputable def slab_Slab_Flush_1.code : Code := match Try.f34.body with | some c => c | none => .skip
theorem slab_Slab_Flush_1.eq : absFn tt 3 slab_Slab_Flush_1.ins slab_Slab_Flush_1.outs slab_Slab_Flush_1.code slab_Slab_Flush_1.ann = slab_Slab_Flush_1 := by
  funext a
  kernel_rfl
theorem slab_Slab_Flush_1.ok : slab_Slab_Flush_1.ann.ok Try.prog 0 3 :=
  ann_ok (by kernel_rfl) (by kernel_rfl) (show ∀ c ∈ ([] : List Callee'), c.ok Try.prog from cs_nil)
    (show ∀ c ∈ ([] : List Callee'), FunQuiet c.F from cs_nil)
theorem slab_Slab_Flush_1.sound : slab_Slab_Flush_1.c.ok Try.prog := by
  refine ⟨?_, Try.f34, slab_Slab_Flush_1.code, Try.func34, rfl, by decide⟩
  have h := fn_sound tt_ok mix_ok (x := slab_Slab_Flush_1.ann) (ins := slab_Slab_Flush_1.ins) (outs := slab_Slab_Flush_1.outs) (N := 3) Try.func34 (c := slab_Slab_Flush_1.code) rfl rfl (by kernel_rfl) (by kernel_rfl) slab_Slab_Flush_1.ok (by decide)
  rw [slab_Slab_Flush_1.eq] at h
  exact h

/-! ### (*wainwright/slab.Slab).keep: function 26 -/
noncomputable def slab_Slab_keep.l1 : (((Int × Int) × List (List UInt8) × List (Int × List UInt8)) × List Int × Int × Int) → Option ((((Int × Int) × List (List UInt8) × List (Int × List UInt8)) × List Int × Int × Int) ⊕ ((Int × Int) × List (List UInt8) × List (Int × List UInt8))) := fun (((s0c, s0d), o1, o2), t7, t8, t9) =>
  if decide (t9 < t8) = true then
    if 0 ≤ t9 ∧ t9 < (t7.length : Int) then
      (slab_Slab_Flush_1 t9).bind fun r16 =>
        if r16 = true then
          if 0 ≤ t7.getD t9.toNat 0 ∧ t7.getD t9.toNat 0 < (o1.length : Int) then
            some (.inl ((((s0c, s0d), o1.set ((t7.getD t9.toNat 0).toNat) (((mget (K := I) (V := .str) o2 (t7.getD t9.toNat 0)).getD [])), o2), t7, t8, IntKind.i64.wrap (t9 + 1))))
          else none
        else
          some (.inl ((((s0c, s0d), o1, o2), t7, t8, IntKind.i64.wrap (t9 + 1))))
    else none
  else
    some (.inr ((((s0c, s0d), o1, o2))))

noncomputable def slab_Slab_keep : ((Int × Int) × List (List UInt8) × List (Int × List UInt8)) → Option ((Int × Int) × List (List UInt8) × List (Int × List UInt8)) := fun ((s0c, s0d), o1, o2) =>
  (slab_Slab_Loose ((s0c, s0d), o1, o2)).bind fun ((_, _, _), r7) =>
    (loopO slab_Slab_keep.l1 ((((s0c, s0d), o1, o2), r7, (r7.length : Int), 0))).bind fun ((s0c, s0d), o1, o2) =>
      some ((((s0c, s0d), o1, ([] : List (Int × List UInt8)))))

def slab_Slab_keep.ins : Spec := ⟨34, 0, [.box (.cons (.ref 1) (.cons (.ref 2) (.cons (.v I) (.cons (.v I) .nil)))), .arr .str, .map I .str], [0, 1], (.cons (.ref 0) (.cons (.fn (.func 34) .nil .nil) .nil))⟩
def slab_Slab_keep.outs : List Spec := [⟨34, 3, [.box (.cons (.ref 1) (.cons (.ref 2) (.cons (.v I) (.cons (.v I) .nil)))), .arr .str, .map I .str], [], .nil⟩]
noncomputable def slab_Slab_keep.c : Callee' := ⟨26, mkFits slab_Slab_keep.ins slab_Slab_keep.outs, mkFun slab_Slab_keep.ins slab_Slab_keep.outs slab_Slab_keep⟩
noncomputable def slab_Slab_keep.ann : Ann :=
  (.seq (.seq (.reg [.std, .callq [slab_Slab_Loose.c]]) (.block (.loop ⟨34, 3, [.box (.cons (.ref 1) (.cons (.ref 2) (.cons (.v I) (.cons (.v I) .nil)))), .arr .str, .map I .str], [0, 1, 7, 8, 9], (.cons (.ref 0) (.cons (.fn (.func 34) .nil .nil) (.cons (.v (.sl I)) (.cons (.v I) (.cons (.v I) .nil)))))⟩ [(.exit 0, ⟨34, 3, [.box (.cons (.ref 1) (.cons (.ref 2) (.cons (.v I) (.cons (.v I) .nil)))), .arr .str, .map I .str], [0], (.cons (.ref 0) .nil)⟩)]
  (.seq (.reg []) (.seq (.cond .std .std) (.seq (.block (.seq (.reg []) (.seq (.reg [.std, .std, .callq [slab_Slab_Flush_1.c]]) (.cond (.drw []) .std)))) (.reg []))))))) (.reg []))
noncomputable def slab_Slab_keep.code : Code := match Try.f26.body with | some c => c | none => .skip
theorem slab_Slab_keep.eq : absFn tt 34 slab_Slab_keep.ins slab_Slab_keep.outs slab_Slab_keep.code slab_Slab_keep.ann = slab_Slab_keep := by
  funext a
  kernel_rfl
theorem slab_Slab_keep.ok : slab_Slab_keep.ann.ok Try.prog 3 34 :=
  ann_ok (by kernel_rfl) (by kernel_rfl) (show ∀ c ∈ ([slab_Slab_Loose.c, slab_Slab_Flush_1.c] : List Callee'), c.ok Try.prog from cs_cons slab_Slab_Loose.sound (cs_cons slab_Slab_Flush_1.sound cs_nil))
    (show ∀ c ∈ ([slab_Slab_Loose.c, slab_Slab_Flush_1.c] : List Callee'), FunQuiet c.F from cs_cons slab_Slab_Loose.quiet (cs_cons slab_Slab_Flush_1.quiet cs_nil))
theorem slab_Slab_keep.sound : slab_Slab_keep.c.ok Try.prog := by
  refine ⟨?_, Try.f26, slab_Slab_keep.code, Try.func26, rfl, by decide⟩
  have h := fn_sound tt_ok mix_ok (x := slab_Slab_keep.ann) (ins := slab_Slab_keep.ins) (outs := slab_Slab_keep.outs) (N := 34) Try.func26 (c := slab_Slab_keep.code) rfl rfl (by kernel_rfl) (by kernel_rfl) slab_Slab_keep.ok (by decide)
  rw [slab_Slab_keep.eq] at h
  exact h

/-! ### (*wainwright/slab.Slab).Flush: function 24 -/
noncomputable def slab_Slab_Flush : ((Int × Int) × List (List UInt8) × List (Int × List UInt8)) → Option (((Int × Int) × List (List UInt8) × List (Int × List UInt8)) × Int) := fun ((s0c, s0d), o1, o2) =>
  (slab_Slab_call ((s0c, s0d), o1, o2)).bind fun (((r5, r5_2), r5_3, r5_4), r5_5) =>
    if (r5_5 == 0) = true then
      (slab_Slab_keep ((r5, r5_2), r5_3, r5_4)).bind fun ((r9, r9_2), r9_3, r9_4) =>
        some (((((r9, r9_2), r9_3, r9_4), r5_5)))
    else
      some (((((r5, r5_2), r5_3, r5_4), r5_5)))

def slab_Slab_Flush.ins : Spec := ⟨11, 0, [.box (.cons (.ref 1) (.cons (.ref 2) (.cons (.v I) (.cons (.v I) .nil)))), .arr .str, .map I .str], [0], (.cons (.ref 0) .nil)⟩
def slab_Slab_Flush.outs : List Spec := [⟨11, 3, [.box (.cons (.ref 1) (.cons (.ref 2) (.cons (.v I) (.cons (.v I) .nil)))), .arr .str, .map I .str], [2], (.cons (.v I) .nil)⟩]
noncomputable def slab_Slab_Flush.c : Callee' := ⟨24, mkFits slab_Slab_Flush.ins slab_Slab_Flush.outs, mkFun slab_Slab_Flush.ins slab_Slab_Flush.outs slab_Slab_Flush⟩
noncomputable def slab_Slab_Flush.ann : Ann :=
  (.seq (.reg []) (.seq (.reg [.std, .call [slab_Slab_call.c]]) (.seq (.seq (.reg []) (.cond (.reg [.std, .call [slab_Slab_keep.c]]) .std)) (.seq (.reg []) .std))))
noncomputable def slab_Slab_Flush.code : Code := match Try.f24.body with | some c => c | none => .skip
theorem slab_Slab_Flush.eq : absFn tt 11 slab_Slab_Flush.ins slab_Slab_Flush.outs slab_Slab_Flush.code slab_Slab_Flush.ann = slab_Slab_Flush := by
  funext a
  kernel_rfl
theorem slab_Slab_Flush.ok : slab_Slab_Flush.ann.ok Try.prog 3 11 :=
  ann_ok (by kernel_rfl) (by kernel_rfl) (show ∀ c ∈ ([slab_Slab_call.c, slab_Slab_keep.c] : List Callee'), c.ok Try.prog from cs_cons slab_Slab_call.sound (cs_cons slab_Slab_keep.sound cs_nil))
    (show ∀ c ∈ ([] : List Callee'), FunQuiet c.F from cs_nil)
theorem slab_Slab_Flush.sound : slab_Slab_Flush.c.ok Try.prog := by
  refine ⟨?_, Try.f24, slab_Slab_Flush.code, Try.func24, rfl, by decide⟩
  have h := fn_sound tt_ok mix_ok (x := slab_Slab_Flush.ann) (ins := slab_Slab_Flush.ins) (outs := slab_Slab_Flush.outs) (N := 11) Try.func24 (c := slab_Slab_Flush.code) rfl rfl (by kernel_rfl) (by kernel_rfl) slab_Slab_Flush.ok (by decide)
  rw [slab_Slab_Flush.eq] at h
  exact h

/-! ### (*wainwright/slab.Slab).Read: function 16 -/
noncomputable def slab_Slab_Read : ((List (List UInt8) × (List (Int × List UInt8)) × Int × Int) × Int) → Option (List UInt8) := fun (s0, i1) =>
  (slab_Slab_there (s0, i1)).bind fun r9 =>
    if (!r9) = true then
      some []
    else
      if (mget (K := I) (V := .str) s0.2.1 i1).isSome = true then
        some ((((mget (K := I) (V := .str) s0.2.1 i1).getD [])))
      else
        if 0 ≤ i1 ∧ i1 < (s0.1.length : Int) then
          some ((s0.1.getD i1.toNat []))
        else none

def slab_Slab_Read.ins : Spec := ⟨29, 0, [], [0, 1], (.cons (.v (.ptr (.pair (.sl .str) (.pair (.map I .str) (.pair I I))))) (.cons (.v I) .nil))⟩
def slab_Slab_Read.outs : List Spec := [⟨29, 0, [], [4], (.cons (.v .str) .nil)⟩]
noncomputable def slab_Slab_Read.c : Callee' := ⟨16, mkFits slab_Slab_Read.ins slab_Slab_Read.outs, mkFun slab_Slab_Read.ins slab_Slab_Read.outs slab_Slab_Read⟩
theorem slab_Slab_Read.quiet : FunQuiet slab_Slab_Read.c.F := mkFun_quiet rfl rfl
noncomputable def slab_Slab_Read.ann : Ann :=
  (.seq (.reg []) (.seq (.seq (.reg [.std, .std, .callq [slab_Slab_there.c]]) (.cond (.seq (.reg []) .std) .std)) (.seq (.seq (.reg []) (.seq (.reg []) (.cond (.seq (.reg []) .std) .std))) (.seq (.reg []) .std))))
noncomputable def slab_Slab_Read.code : Code := match Try.f16.body with | some c => c | none => .skip
theorem slab_Slab_Read.eq : absFn tt 29 slab_Slab_Read.ins slab_Slab_Read.outs slab_Slab_Read.code slab_Slab_Read.ann = slab_Slab_Read := by
  funext a
  kernel_rfl
theorem slab_Slab_Read.ok : slab_Slab_Read.ann.ok Try.prog 0 29 :=
  ann_ok (by kernel_rfl) (by kernel_rfl) (show ∀ c ∈ ([slab_Slab_there.c] : List Callee'), c.ok Try.prog from cs_cons slab_Slab_there.sound cs_nil)
    (show ∀ c ∈ ([slab_Slab_there.c] : List Callee'), FunQuiet c.F from cs_cons slab_Slab_there.quiet cs_nil)
theorem slab_Slab_Read.sound : slab_Slab_Read.c.ok Try.prog := by
  refine ⟨?_, Try.f16, slab_Slab_Read.code, Try.func16, rfl, by decide⟩
  have h := fn_sound tt_ok mix_ok (x := slab_Slab_Read.ann) (ins := slab_Slab_Read.ins) (outs := slab_Slab_Read.outs) (N := 29) Try.func16 (c := slab_Slab_Read.code) rfl rfl (by kernel_rfl) (by kernel_rfl) slab_Slab_Read.ok (by decide)
  rw [slab_Slab_Read.eq] at h
  exact h

/-! ### wainwright/wainwrightref01.Zeros: function 28 -/
noncomputable def wainwrightref01_Zeros : Int → Option (List UInt8) := fun n0 =>
  if 0 ≤ n0 ∧ n0 ≤ n0 ∧ n0 * (1 : Nat) ≤ 140737488355328 ∧ n0 ≤ 9223372036854775807 then
    some (((List.replicate n0.toNat (0 : Int)).map fun (n : Int) => UInt8.ofNat n.toNat))
  else none

def wainwrightref01_Zeros.ins : Spec := ⟨6, 0, [], [0], (.cons (.v I) .nil)⟩
def wainwrightref01_Zeros.outs : List Spec := [⟨6, 0, [], [2], (.cons (.v .str) .nil)⟩]
noncomputable def wainwrightref01_Zeros.c : Callee' := ⟨28, mkFits wainwrightref01_Zeros.ins wainwrightref01_Zeros.outs, mkFun wainwrightref01_Zeros.ins wainwrightref01_Zeros.outs wainwrightref01_Zeros⟩
theorem wainwrightref01_Zeros.quiet : FunQuiet wainwrightref01_Zeros.c.F := mkFun_quiet rfl rfl
noncomputable def wainwrightref01_Zeros.ann : Ann :=
  (.seq (.reg []) (.seq (.reg [.std, .obj (.int .u8)]) .std))
noncomputable def wainwrightref01_Zeros.code : Code := match Try.f28.body with | some c => c | none => .skip
theorem wainwrightref01_Zeros.eq : absFn tt 6 wainwrightref01_Zeros.ins wainwrightref01_Zeros.outs wainwrightref01_Zeros.code wainwrightref01_Zeros.ann = wainwrightref01_Zeros := by
  funext a
  kernel_rfl
theorem wainwrightref01_Zeros.ok : wainwrightref01_Zeros.ann.ok Try.prog 0 6 :=
  ann_ok (by kernel_rfl) (by kernel_rfl) (show ∀ c ∈ ([] : List Callee'), c.ok Try.prog from cs_nil)
    (show ∀ c ∈ ([] : List Callee'), FunQuiet c.F from cs_nil)
theorem wainwrightref01_Zeros.sound : wainwrightref01_Zeros.c.ok Try.prog := by
  refine ⟨?_, Try.f28, wainwrightref01_Zeros.code, Try.func28, rfl, by decide⟩
  have h := fn_sound tt_ok mix_ok (x := wainwrightref01_Zeros.ann) (ins := wainwrightref01_Zeros.ins) (outs := wainwrightref01_Zeros.outs) (N := 6) Try.func28 (c := wainwrightref01_Zeros.code) rfl rfl (by kernel_rfl) (by kernel_rfl) wainwrightref01_Zeros.ok (by decide)
  rw [wainwrightref01_Zeros.eq] at h
  exact h

/-! ### wainwright/wainwrightref02.Whole: function 12 -/
noncomputable def wainwrightref02_Whole : List UInt8 → Option (List UInt8) := fun s0 =>
  if 0 ≤ (if 128 < (s0.length : Int) then 128 else (s0.length : Int)) ∧ (if 128 < (s0.length : Int) then 128 else (s0.length : Int)) ≤ (s0.length : Int) then
    (wainwrightref01_Zeros (IntKind.i64.wrap (128 - ((s0.take ((if 128 < (s0.length : Int) then 128 else (s0.length : Int))).toNat).length : Int)))).bind fun r12 =>
      if (s0.take ((if 128 < (s0.length : Int) then 128 else (s0.length : Int))).toNat).length + r12.length ≤ 9223372036854775807 then
        some (((s0.take ((if 128 < (s0.length : Int) then 128 else (s0.length : Int))).toNat) ++ r12))
      else none
  else none

def wainwrightref02_Whole.ins : Spec := ⟨14, 0, [], [0], (.cons (.v .str) .nil)⟩
def wainwrightref02_Whole.outs : List Spec := [⟨14, 0, [], [2], (.cons (.v .str) .nil)⟩]
noncomputable def wainwrightref02_Whole.c : Callee' := ⟨12, mkFits wainwrightref02_Whole.ins wainwrightref02_Whole.outs, mkFun wainwrightref02_Whole.ins wainwrightref02_Whole.outs wainwrightref02_Whole⟩
theorem wainwrightref02_Whole.quiet : FunQuiet wainwrightref02_Whole.c.F := mkFun_quiet rfl rfl
noncomputable def wainwrightref02_Whole.ann : Ann :=
  (.seq (.reg []) (.seq (.reg []) (.seq (.reg [.std, .std, .std, .std, .callq [wainwrightref01_Zeros.c]]) .std)))
noncomputable def wainwrightref02_Whole.code : Code := match Try.f12.body with | some c => c | none => .skip
theorem wainwrightref02_Whole.eq : absFn tt 14 wainwrightref02_Whole.ins wainwrightref02_Whole.outs wainwrightref02_Whole.code wainwrightref02_Whole.ann = wainwrightref02_Whole := by
  funext a
  kernel_rfl
theorem wainwrightref02_Whole.ok : wainwrightref02_Whole.ann.ok Try.prog 0 14 :=
  ann_ok (by kernel_rfl) (by kernel_rfl) (show ∀ c ∈ ([wainwrightref01_Zeros.c] : List Callee'), c.ok Try.prog from cs_cons wainwrightref01_Zeros.sound cs_nil)
    (show ∀ c ∈ ([wainwrightref01_Zeros.c] : List Callee'), FunQuiet c.F from cs_cons wainwrightref01_Zeros.quiet cs_nil)
theorem wainwrightref02_Whole.sound : wainwrightref02_Whole.c.ok Try.prog := by
  refine ⟨?_, Try.f12, wainwrightref02_Whole.code, Try.func12, rfl, by decide⟩
  have h := fn_sound tt_ok mix_ok (x := wainwrightref02_Whole.ann) (ins := wainwrightref02_Whole.ins) (outs := wainwrightref02_Whole.outs) (N := 14) Try.func12 (c := wainwrightref02_Whole.code) rfl rfl (by kernel_rfl) (by kernel_rfl) wainwrightref02_Whole.ok (by decide)
  rw [wainwrightref02_Whole.eq] at h
  exact h

/-! ### (*wainwright/slab.Slab).Crash$1: function 27 -/
noncomputable def slab_Slab_Crash_1 : (Int × List Bool) → Option (Bool) := fun (k0, t1) =>
  if decide ((t1.length : Int) > 0) = true then
    if (t1.length : Int) = 0 then none else
    if 0 ≤ Int.tmod k0 (t1.length : Int) ∧ Int.tmod k0 (t1.length : Int) < (t1.length : Int) then
      some ((t1.getD ((Int.tmod k0 (t1.length : Int)).toNat) false))
    else none
  else
    some false

def slab_Slab_Crash_1.ins : Spec := ⟨16, 0, [], [0, 1], (.cons (.v I) (.cons (.v (.ptr (.sl .bool))) .nil))⟩
def slab_Slab_Crash_1.outs : List Spec := [⟨16, 0, [], [3], (.cons (.v .bool) .nil)⟩]
noncomputable def slab_Slab_Crash_1.c : Callee' := ⟨27, mkFits slab_Slab_Crash_1.ins slab_Slab_Crash_1.outs, mkFun slab_Slab_Crash_1.ins slab_Slab_Crash_1.outs slab_Slab_Crash_1⟩
theorem slab_Slab_Crash_1.quiet : FunQuiet slab_Slab_Crash_1.c.F := mkFun_quiet rfl rfl
noncomputable def slab_Slab_Crash_1.ann : Ann :=
  (.seq (.reg []) (.seq (.drw []) .std))
noncomputable def slab_Slab_Crash_1.code : Code := match Try.f27.body with | some c => c | none => .skip
theorem slab_Slab_Crash_1.eq : absFn tt 16 slab_Slab_Crash_1.ins slab_Slab_Crash_1.outs slab_Slab_Crash_1.code slab_Slab_Crash_1.ann = slab_Slab_Crash_1 := by
  funext a
  kernel_rfl
theorem slab_Slab_Crash_1.ok : slab_Slab_Crash_1.ann.ok Try.prog 0 16 :=
  ann_ok (by kernel_rfl) (by kernel_rfl) (show ∀ c ∈ ([] : List Callee'), c.ok Try.prog from cs_nil)
    (show ∀ c ∈ ([] : List Callee'), FunQuiet c.F from cs_nil)
theorem slab_Slab_Crash_1.sound : slab_Slab_Crash_1.c.ok Try.prog := by
  refine ⟨?_, Try.f27, slab_Slab_Crash_1.code, Try.func27, rfl, by decide⟩
  have h := fn_sound tt_ok mix_ok (x := slab_Slab_Crash_1.ann) (ins := slab_Slab_Crash_1.ins) (outs := slab_Slab_Crash_1.outs) (N := 16) Try.func27 (c := slab_Slab_Crash_1.code) rfl rfl (by kernel_rfl) (by kernel_rfl) slab_Slab_Crash_1.ok (by decide)
  rw [slab_Slab_Crash_1.eq] at h
  exact h

/-! ### (*wainwright/slab.Slab).keep: function 26 -/
noncomputable def slab_Slab_keep_1.l1 : (((Int × Int) × List (List UInt8) × List (Int × List UInt8)) × List Bool × List Int × Int × Int) → Option ((((Int × Int) × List (List UInt8) × List (Int × List UInt8)) × List Bool × List Int × Int × Int) ⊕ ((Int × Int) × List (List UInt8) × List (Int × List UInt8))) := fun (((s0c, s0d), o1, o2), is1c0, t7, t8, t9) =>
  if decide (t9 < t8) = true then
    if 0 ≤ t9 ∧ t9 < (t7.length : Int) then
      (slab_Slab_Crash_1 (t9, is1c0)).bind fun r16 =>
        if r16 = true then
          if 0 ≤ t7.getD t9.toNat 0 ∧ t7.getD t9.toNat 0 < (o1.length : Int) then
            some (.inl ((((s0c, s0d), o1.set ((t7.getD t9.toNat 0).toNat) (((mget (K := I) (V := .str) o2 (t7.getD t9.toNat 0)).getD [])), o2), is1c0, t7, t8, IntKind.i64.wrap (t9 + 1))))
          else none
        else
          some (.inl ((((s0c, s0d), o1, o2), is1c0, t7, t8, IntKind.i64.wrap (t9 + 1))))
    else none
  else
    some (.inr ((((s0c, s0d), o1, o2))))

noncomputable def slab_Slab_keep_1 : (((Int × Int) × List (List UInt8) × List (Int × List UInt8)) × List Bool) → Option ((Int × Int) × List (List UInt8) × List (Int × List UInt8)) := fun (((s0c, s0d), o1, o2), is1c0) =>
  (slab_Slab_Loose ((s0c, s0d), o1, o2)).bind fun ((_, _, _), r7) =>
    (loopO slab_Slab_keep_1.l1 ((((s0c, s0d), o1, o2), is1c0, r7, (r7.length : Int), 0))).bind fun ((s0c, s0d), o1, o2) =>
      some ((((s0c, s0d), o1, ([] : List (Int × List UInt8)))))

def slab_Slab_keep_1.ins : Spec := ⟨34, 0, [.box (.cons (.ref 1) (.cons (.ref 2) (.cons (.v I) (.cons (.v I) .nil)))), .arr .str, .map I .str], [0, 1], (.cons (.ref 0) (.cons (.fn (.func 27) .nil (.cons (.v (.ptr (.sl .bool))) .nil)) .nil))⟩
def slab_Slab_keep_1.outs : List Spec := [⟨34, 3, [.box (.cons (.ref 1) (.cons (.ref 2) (.cons (.v I) (.cons (.v I) .nil)))), .arr .str, .map I .str], [], .nil⟩]
noncomputable def slab_Slab_keep_1.c : Callee' := ⟨26, mkFits slab_Slab_keep_1.ins slab_Slab_keep_1.outs, mkFun slab_Slab_keep_1.ins slab_Slab_keep_1.outs slab_Slab_keep_1⟩
noncomputable def slab_Slab_keep_1.ann : Ann :=
  (.seq (.seq (.reg [.std, .callq [slab_Slab_Loose.c]]) (.block (.loop ⟨34, 3, [.box (.cons (.ref 1) (.cons (.ref 2) (.cons (.v I) (.cons (.v I) .nil)))), .arr .str, .map I .str], [0, 1, 7, 8, 9], (.cons (.ref 0) (.cons (.fn (.func 27) .nil (.cons (.v (.ptr (.sl .bool))) .nil)) (.cons (.v (.sl I)) (.cons (.v I) (.cons (.v I) .nil)))))⟩ [(.exit 0, ⟨34, 3, [.box (.cons (.ref 1) (.cons (.ref 2) (.cons (.v I) (.cons (.v I) .nil)))), .arr .str, .map I .str], [0], (.cons (.ref 0) .nil)⟩)]
  (.seq (.reg []) (.seq (.cond .std .std) (.seq (.block (.seq (.reg []) (.seq (.reg [.std, .std, .callq [slab_Slab_Crash_1.c]]) (.cond (.drw []) .std)))) (.reg []))))))) (.reg []))
noncomputable def slab_Slab_keep_1.code : Code := match Try.f26.body with | some c => c | none => .skip
theorem slab_Slab_keep_1.eq : absFn tt 34 slab_Slab_keep_1.ins slab_Slab_keep_1.outs slab_Slab_keep_1.code slab_Slab_keep_1.ann = slab_Slab_keep_1 := by
  funext a
  kernel_rfl
theorem slab_Slab_keep_1.ok : slab_Slab_keep_1.ann.ok Try.prog 3 34 :=
  ann_ok (by kernel_rfl) (by kernel_rfl) (show ∀ c ∈ ([slab_Slab_Loose.c, slab_Slab_Crash_1.c] : List Callee'), c.ok Try.prog from cs_cons slab_Slab_Loose.sound (cs_cons slab_Slab_Crash_1.sound cs_nil))
    (show ∀ c ∈ ([slab_Slab_Loose.c, slab_Slab_Crash_1.c] : List Callee'), FunQuiet c.F from cs_cons slab_Slab_Loose.quiet (cs_cons slab_Slab_Crash_1.quiet cs_nil))
theorem slab_Slab_keep_1.sound : slab_Slab_keep_1.c.ok Try.prog := by
  refine ⟨?_, Try.f26, slab_Slab_keep_1.code, Try.func26, rfl, by decide⟩
  have h := fn_sound tt_ok mix_ok (x := slab_Slab_keep_1.ann) (ins := slab_Slab_keep_1.ins) (outs := slab_Slab_keep_1.outs) (N := 34) Try.func26 (c := slab_Slab_keep_1.code) rfl rfl (by kernel_rfl) (by kernel_rfl) slab_Slab_keep_1.ok (by decide)
  rw [slab_Slab_keep_1.eq] at h
  exact h

/-! ### (*wainwright/slab.Slab).Crash: function 10 -/
noncomputable def slab_Slab_Crash : (((Int × Int) × List (List UInt8) × List (Int × List UInt8)) × List Bool) → Option ((Int × Int) × List (List UInt8) × List (Int × List UInt8)) := fun (((s0c, s0d), o1, o2), keep1) =>
  (slab_Slab_keep_1 (((s0c, s0d), o1, o2), keep1)).bind fun ((r8, r8_2), r8_3, r8_4) =>
    some ((((r8, (-1)), r8_3, r8_4)))

def slab_Slab_Crash.ins : Spec := ⟨12, 0, [.box (.cons (.ref 1) (.cons (.ref 2) (.cons (.v I) (.cons (.v I) .nil)))), .arr .str, .map I .str], [0, 1], (.cons (.ref 0) (.cons (.v (.sl .bool)) .nil))⟩
def slab_Slab_Crash.outs : List Spec := [⟨12, 3, [.box (.cons (.ref 1) (.cons (.ref 2) (.cons (.v I) (.cons (.v I) .nil)))), .arr .str, .map I .str], [], .nil⟩]
noncomputable def slab_Slab_Crash.c : Callee' := ⟨10, mkFits slab_Slab_Crash.ins slab_Slab_Crash.outs, mkFun slab_Slab_Crash.ins slab_Slab_Crash.outs slab_Slab_Crash⟩
noncomputable def slab_Slab_Crash.ann : Ann :=
  (.seq (.reg []) (.seq (.seq (.reg [.std, .obj .bool]) (.cond .std .std)) (.seq (.reg [.std, .std, .call [slab_Slab_keep_1.c]]) (.reg []))))
noncomputable def slab_Slab_Crash.code : Code := match Try.f10.body with | some c => c | none => .skip
theorem slab_Slab_Crash.eq : absFn tt 12 slab_Slab_Crash.ins slab_Slab_Crash.outs slab_Slab_Crash.code slab_Slab_Crash.ann = slab_Slab_Crash := by
  funext a
  kernel_rfl
theorem slab_Slab_Crash.ok : slab_Slab_Crash.ann.ok Try.prog 3 12 :=
  ann_ok (by kernel_rfl) (by kernel_rfl) (show ∀ c ∈ ([slab_Slab_keep_1.c] : List Callee'), c.ok Try.prog from cs_cons slab_Slab_keep_1.sound cs_nil)
    (show ∀ c ∈ ([] : List Callee'), FunQuiet c.F from cs_nil)
theorem slab_Slab_Crash.sound : slab_Slab_Crash.c.ok Try.prog := by
  refine ⟨?_, Try.f10, slab_Slab_Crash.code, Try.func10, rfl, by decide⟩
  have h := fn_sound tt_ok mix_ok (x := slab_Slab_Crash.ann) (ins := slab_Slab_Crash.ins) (outs := slab_Slab_Crash.outs) (N := 12) Try.func10 (c := slab_Slab_Crash.code) rfl rfl (by kernel_rfl) (by kernel_rfl) slab_Slab_Crash.ok (by decide)
  rw [slab_Slab_Crash.eq] at h
  exact h

/-! ### (*wainwright/slab.Slab).Size: function 15 -/
noncomputable def slab_Slab_Size : (List (List UInt8) × (List (Int × List UInt8)) × Int × Int) → Option (Int) := fun s0 =>
  some (((s0.1.length : Int)))

def slab_Slab_Size.ins : Spec := ⟨10, 0, [], [0], (.cons (.v (.ptr (.pair (.sl .str) (.pair (.map I .str) (.pair I I))))) .nil)⟩
def slab_Slab_Size.outs : List Spec := [⟨10, 0, [], [2], (.cons (.v I) .nil)⟩]
noncomputable def slab_Slab_Size.c : Callee' := ⟨15, mkFits slab_Slab_Size.ins slab_Slab_Size.outs, mkFun slab_Slab_Size.ins slab_Slab_Size.outs slab_Slab_Size⟩
theorem slab_Slab_Size.quiet : FunQuiet slab_Slab_Size.c.F := mkFun_quiet rfl rfl
noncomputable def slab_Slab_Size.ann : Ann :=
  (.seq (.reg []) (.seq (.seq (.reg [.std, .obj .bool]) (.cond (.seq (.reg []) .std) .std)) (.seq (.reg []) .std)))
noncomputable def slab_Slab_Size.code : Code := match Try.f15.body with | some c => c | none => .skip
theorem slab_Slab_Size.eq : absFn tt 10 slab_Slab_Size.ins slab_Slab_Size.outs slab_Slab_Size.code slab_Slab_Size.ann = slab_Slab_Size := by
  funext a
  kernel_rfl
theorem slab_Slab_Size.ok : slab_Slab_Size.ann.ok Try.prog 0 10 :=
  ann_ok (by kernel_rfl) (by kernel_rfl) (show ∀ c ∈ ([] : List Callee'), c.ok Try.prog from cs_nil)
    (show ∀ c ∈ ([] : List Callee'), FunQuiet c.F from cs_nil)
theorem slab_Slab_Size.sound : slab_Slab_Size.c.ok Try.prog := by
  refine ⟨?_, Try.f15, slab_Slab_Size.code, Try.func15, rfl, by decide⟩
  have h := fn_sound tt_ok mix_ok (x := slab_Slab_Size.ann) (ins := slab_Slab_Size.ins) (outs := slab_Slab_Size.outs) (N := 10) Try.func15 (c := slab_Slab_Size.code) rfl rfl (by kernel_rfl) (by kernel_rfl) slab_Slab_Size.ok (by decide)
  rw [slab_Slab_Size.eq] at h
  exact h

/-! ### (*wainwright/slab.Slab).Calls: function 21 -/
noncomputable def slab_Slab_Calls : (List (List UInt8) × (List (Int × List UInt8)) × Int × Int) → Option (Int) := fun s0 =>
  some s0.2.2.1

def slab_Slab_Calls.ins : Spec := ⟨9, 0, [], [0], (.cons (.v (.ptr (.pair (.sl .str) (.pair (.map I .str) (.pair I I))))) .nil)⟩
def slab_Slab_Calls.outs : List Spec := [⟨9, 0, [], [2], (.cons (.v I) .nil)⟩]
noncomputable def slab_Slab_Calls.c : Callee' := ⟨21, mkFits slab_Slab_Calls.ins slab_Slab_Calls.outs, mkFun slab_Slab_Calls.ins slab_Slab_Calls.outs slab_Slab_Calls⟩
theorem slab_Slab_Calls.quiet : FunQuiet slab_Slab_Calls.c.F := mkFun_quiet rfl rfl
noncomputable def slab_Slab_Calls.ann : Ann :=
  (.seq (.reg []) (.seq (.seq (.reg [.std, .obj .bool]) (.cond (.seq (.reg []) .std) .std)) (.seq (.reg []) .std)))
noncomputable def slab_Slab_Calls.code : Code := match Try.f21.body with | some c => c | none => .skip
theorem slab_Slab_Calls.eq : absFn tt 9 slab_Slab_Calls.ins slab_Slab_Calls.outs slab_Slab_Calls.code slab_Slab_Calls.ann = slab_Slab_Calls := by
  funext a
  kernel_rfl
theorem slab_Slab_Calls.ok : slab_Slab_Calls.ann.ok Try.prog 0 9 :=
  ann_ok (by kernel_rfl) (by kernel_rfl) (show ∀ c ∈ ([] : List Callee'), c.ok Try.prog from cs_nil)
    (show ∀ c ∈ ([] : List Callee'), FunQuiet c.F from cs_nil)
theorem slab_Slab_Calls.sound : slab_Slab_Calls.c.ok Try.prog := by
  refine ⟨?_, Try.f21, slab_Slab_Calls.code, Try.func21, rfl, by decide⟩
  have h := fn_sound tt_ok mix_ok (x := slab_Slab_Calls.ann) (ins := slab_Slab_Calls.ins) (outs := slab_Slab_Calls.outs) (N := 9) Try.func21 (c := slab_Slab_Calls.code) rfl rfl (by kernel_rfl) (by kernel_rfl) slab_Slab_Calls.ok (by decide)
  rw [slab_Slab_Calls.eq] at h
  exact h

/-! ### wainwright/wainwrightlaw02.lives: function 7 -/
noncomputable def wainwrightlaw02_lives : Unit → Option (Bool) := fun _ =>
  (slab_New 2).bind fun ((r2, r2_2), r2_3, r2_4) =>
    (slab_Slab_Write (((r2, r2_2), r2_3, r2_4), 0, ([97] : List UInt8))).bind fun (((r7, r7_2), r7_3, r7_4), r7_5) =>
      if (r7_5 != 0) = false then
        (slab_Slab_Flush ((r7, r7_2), r7_3, r7_4)).bind fun (((r12, r12_2), r12_3, r12_4), r12_5) =>
          if (r12_5 != 0) = false then
            (slab_Slab_Write (((r12, r12_2), r12_3, r12_4), 0, ([98] : List UInt8))).bind fun (((r17, r17_2), r17_3, r17_4), r17_5) =>
              if (r17_5 != 0) = false then
                (slab_Slab_Read ((r17_3, r17_4, r17, r17_2), 0)).bind fun r22 =>
                  (wainwrightref02_Whole ([98] : List UInt8)).bind fun r23 =>
                    if (!(r22 == r23)) = true then
                      some false
                    else
                      (slab_Slab_Crash (((r17, r17_2), r17_3, r17_4), ([] : List Bool))).bind fun ((r27, r27_2), r27_3, r27_4) =>
                        (slab_Slab_Read ((r27_3, r27_4, r27, r27_2), 0)).bind fun r29 =>
                          (wainwrightref02_Whole ([97] : List UInt8)).bind fun r30 =>
                            if (r29 == r30) = true then
                              (slab_Slab_Size (r27_3, r27_4, r27, r27_2)).bind fun r34 =>
                                if (r34 == 2) = true then
                                  (slab_Slab_Calls (r27_3, r27_4, r27, r27_2)).bind fun r39 =>
                                    some (((r39 == 3)))
                                else
                                  some false
                            else
                              some false
              else
                some false
          else
            some false
      else
        some false

def wainwrightlaw02_lives.ins : Spec := ⟨42, 0, [], [], .nil⟩
def wainwrightlaw02_lives.outs : List Spec := [⟨42, 0, [], [0], (.cons (.v .bool) .nil)⟩]
noncomputable def wainwrightlaw02_lives.c : Callee' := ⟨7, mkFits wainwrightlaw02_lives.ins wainwrightlaw02_lives.outs, mkFun wainwrightlaw02_lives.ins wainwrightlaw02_lives.outs wainwrightlaw02_lives⟩
theorem wainwrightlaw02_lives.quiet : FunQuiet wainwrightlaw02_lives.c.F := mkFun_quiet rfl rfl
noncomputable def wainwrightlaw02_lives.ann : Ann :=
  (.seq (.reg []) (.seq (.reg [.call [slab_New.c]]) (.seq (.seq (.reg [.std, .obj .bool, .std, .std, .call [slab_Slab_Write.c], .std, .std, .std, .std, .call [slab_Slab_Flush.c], .std, .std, .std, .std, .call [slab_Slab_Write.c], .std, .std, .std, .std, .callq [slab_Slab_Read.c], .callq [wainwrightref02_Whole.c]]) (.cond (.seq (.reg []) .std) .std)) (.seq (.reg [.std, .call [slab_Slab_Crash.c]]) (.seq (.reg [.std, .callq [slab_Slab_Read.c], .callq [wainwrightref02_Whole.c], .std, .std, .std, .callq [slab_Slab_Size.c], .std, .std, .std, .std, .callq [slab_Slab_Calls.c]]) .std)))))
noncomputable def wainwrightlaw02_lives.code : Code := match Try.f7.body with | some c => c | none => .skip
theorem wainwrightlaw02_lives.eq : absFn tt 42 wainwrightlaw02_lives.ins wainwrightlaw02_lives.outs wainwrightlaw02_lives.code wainwrightlaw02_lives.ann = wainwrightlaw02_lives := by
  funext a
  kernel_rfl
theorem wainwrightlaw02_lives.ok : wainwrightlaw02_lives.ann.ok Try.prog 0 42 :=
  ann_ok (by kernel_rfl) (by kernel_rfl) (show ∀ c ∈ ([slab_New.c, slab_Slab_Write.c, slab_Slab_Flush.c, slab_Slab_Write.c, slab_Slab_Read.c, wainwrightref02_Whole.c, slab_Slab_Crash.c, slab_Slab_Read.c, wainwrightref02_Whole.c, slab_Slab_Size.c, slab_Slab_Calls.c] : List Callee'), c.ok Try.prog from cs_cons slab_New.sound (cs_cons slab_Slab_Write.sound (cs_cons slab_Slab_Flush.sound (cs_cons slab_Slab_Write.sound (cs_cons slab_Slab_Read.sound (cs_cons wainwrightref02_Whole.sound (cs_cons slab_Slab_Crash.sound (cs_cons slab_Slab_Read.sound (cs_cons wainwrightref02_Whole.sound (cs_cons slab_Slab_Size.sound (cs_cons slab_Slab_Calls.sound cs_nil)))))))))))
    (show ∀ c ∈ ([slab_Slab_Read.c, wainwrightref02_Whole.c, slab_Slab_Read.c, wainwrightref02_Whole.c, slab_Slab_Size.c, slab_Slab_Calls.c] : List Callee'), FunQuiet c.F from cs_cons slab_Slab_Read.quiet (cs_cons wainwrightref02_Whole.quiet (cs_cons slab_Slab_Read.quiet (cs_cons wainwrightref02_Whole.quiet (cs_cons slab_Slab_Size.quiet (cs_cons slab_Slab_Calls.quiet cs_nil))))))
theorem wainwrightlaw02_lives.sound : wainwrightlaw02_lives.c.ok Try.prog := by
  refine ⟨?_, Try.f7, wainwrightlaw02_lives.code, Try.func7, rfl, by decide⟩
  have h := fn_sound tt_ok mix_ok (x := wainwrightlaw02_lives.ann) (ins := wainwrightlaw02_lives.ins) (outs := wainwrightlaw02_lives.outs) (N := 42) Try.func7 (c := wainwrightlaw02_lives.code) rfl rfl (by kernel_rfl) (by kernel_rfl) wainwrightlaw02_lives.ok (by decide)
  rw [wainwrightlaw02_lives.eq] at h
  exact h

/-! ### (wainwright/wainwrightlaw02.Op).kind: function 20 -/
noncomputable def wainwrightlaw02_Op_kind : (Int × Int × List UInt8 × List Bool) → Option (Int) := fun ov0 =>
  some ((IntKind.i64.wrap (Int.tmod (IntKind.u64.wrap (ov0.1)) 4)))

def wainwrightlaw02_Op_kind.ins : Spec := ⟨8, 0, [], [0], (.cons (.v (.st (.pair I (.pair I (.pair .str (.sl .bool)))))) .nil)⟩
def wainwrightlaw02_Op_kind.outs : List Spec := [⟨8, 0, [], [2], (.cons (.v I) .nil)⟩]
noncomputable def wainwrightlaw02_Op_kind.c : Callee' := ⟨20, mkFits wainwrightlaw02_Op_kind.ins wainwrightlaw02_Op_kind.outs, mkFun wainwrightlaw02_Op_kind.ins wainwrightlaw02_Op_kind.outs wainwrightlaw02_Op_kind⟩
theorem wainwrightlaw02_Op_kind.quiet : FunQuiet wainwrightlaw02_Op_kind.c.F := mkFun_quiet rfl rfl
noncomputable def wainwrightlaw02_Op_kind.ann : Ann :=
  (.seq (.reg []) (.seq (.reg []) .std))
noncomputable def wainwrightlaw02_Op_kind.code : Code := match Try.f20.body with | some c => c | none => .skip
theorem wainwrightlaw02_Op_kind.eq : absFn tt 8 wainwrightlaw02_Op_kind.ins wainwrightlaw02_Op_kind.outs wainwrightlaw02_Op_kind.code wainwrightlaw02_Op_kind.ann = wainwrightlaw02_Op_kind := by
  funext a
  kernel_rfl
theorem wainwrightlaw02_Op_kind.ok : wainwrightlaw02_Op_kind.ann.ok Try.prog 0 8 :=
  ann_ok (by kernel_rfl) (by kernel_rfl) (show ∀ c ∈ ([] : List Callee'), c.ok Try.prog from cs_nil)
    (show ∀ c ∈ ([] : List Callee'), FunQuiet c.F from cs_nil)
theorem wainwrightlaw02_Op_kind.sound : wainwrightlaw02_Op_kind.c.ok Try.prog := by
  refine ⟨?_, Try.f20, wainwrightlaw02_Op_kind.code, Try.func20, rfl, by decide⟩
  have h := fn_sound tt_ok mix_ok (x := wainwrightlaw02_Op_kind.ann) (ins := wainwrightlaw02_Op_kind.ins) (outs := wainwrightlaw02_Op_kind.outs) (N := 8) Try.func20 (c := wainwrightlaw02_Op_kind.code) rfl rfl (by kernel_rfl) (by kernel_rfl) wainwrightlaw02_Op_kind.ok (by decide)
  rw [wainwrightlaw02_Op_kind.eq] at h
  exact h

/-! ### (*wainwright/slab.Slab).call: function 33 -/
noncomputable def slab_Slab_call_1 : Unit → Option (Int) := fun _ =>
  some 1

def slab_Slab_call_1.ins : Spec := ⟨39, 0, [], [0], (.cons (.nilptr) .nil)⟩
def slab_Slab_call_1.outs : List Spec := [⟨39, 0, [], [2], (.cons (.v I) .nil)⟩]
noncomputable def slab_Slab_call_1.c : Callee' := ⟨33, mkFits slab_Slab_call_1.ins slab_Slab_call_1.outs, mkFun slab_Slab_call_1.ins slab_Slab_call_1.outs slab_Slab_call_1⟩
theorem slab_Slab_call_1.quiet : FunQuiet slab_Slab_call_1.c.F := mkFun_quiet rfl rfl
noncomputable def slab_Slab_call_1.ann : Ann :=
  (.seq (.reg []) (.seq (.block (.seq (.reg [.std, .obj .bool]) (.cond (.seq (.reg []) .std) (.seq (.reg []) (.cond (.seq (.reg []) (.seq (.reg []) .std)) (.seq (.reg []) (.cond (.reg []) .std))))))) (.seq (.reg []) (.seq (.reg []) .std))))
noncomputable def slab_Slab_call_1.code : Code := match Try.f33.body with | some c => c | none => .skip
theorem slab_Slab_call_1.eq : absFn tt 39 slab_Slab_call_1.ins slab_Slab_call_1.outs slab_Slab_call_1.code slab_Slab_call_1.ann = slab_Slab_call_1 := by
  funext a
  kernel_rfl
theorem slab_Slab_call_1.ok : slab_Slab_call_1.ann.ok Try.prog 0 39 :=
  ann_ok (by kernel_rfl) (by kernel_rfl) (show ∀ c ∈ ([] : List Callee'), c.ok Try.prog from cs_nil)
    (show ∀ c ∈ ([] : List Callee'), FunQuiet c.F from cs_nil)
theorem slab_Slab_call_1.sound : slab_Slab_call_1.c.ok Try.prog := by
  refine ⟨?_, Try.f33, slab_Slab_call_1.code, Try.func33, rfl, by decide⟩
  have h := fn_sound tt_ok mix_ok (x := slab_Slab_call_1.ann) (ins := slab_Slab_call_1.ins) (outs := slab_Slab_call_1.outs) (N := 39) Try.func33 (c := slab_Slab_call_1.code) rfl rfl (by kernel_rfl) (by kernel_rfl) slab_Slab_call_1.ok (by decide)
  rw [slab_Slab_call_1.eq] at h
  exact h

/-! ### (*wainwright/slab.Slab).there: function 30 -/
noncomputable def slab_Slab_there_1 : Int → Option (Bool) := fun i1 =>
  some false

def slab_Slab_there_1.ins : Spec := ⟨20, 0, [], [0, 1], (.cons (.nilptr) (.cons (.v I) .nil))⟩
def slab_Slab_there_1.outs : List Spec := [⟨20, 0, [], [4], (.cons (.v .bool) .nil)⟩]
noncomputable def slab_Slab_there_1.c : Callee' := ⟨30, mkFits slab_Slab_there_1.ins slab_Slab_there_1.outs, mkFun slab_Slab_there_1.ins slab_Slab_there_1.outs slab_Slab_there_1⟩
theorem slab_Slab_there_1.quiet : FunQuiet slab_Slab_there_1.c.F := mkFun_quiet rfl rfl
noncomputable def slab_Slab_there_1.ann : Ann :=
  (.seq (.reg []) (.seq (.reg [.std, .obj .bool]) .std))
noncomputable def slab_Slab_there_1.code : Code := match Try.f30.body with | some c => c | none => .skip
theorem slab_Slab_there_1.eq : absFn tt 20 slab_Slab_there_1.ins slab_Slab_there_1.outs slab_Slab_there_1.code slab_Slab_there_1.ann = slab_Slab_there_1 := by
  funext a
  kernel_rfl
theorem slab_Slab_there_1.ok : slab_Slab_there_1.ann.ok Try.prog 0 20 :=
  ann_ok (by kernel_rfl) (by kernel_rfl) (show ∀ c ∈ ([] : List Callee'), c.ok Try.prog from cs_nil)
    (show ∀ c ∈ ([] : List Callee'), FunQuiet c.F from cs_nil)
theorem slab_Slab_there_1.sound : slab_Slab_there_1.c.ok Try.prog := by
  refine ⟨?_, Try.f30, slab_Slab_there_1.code, Try.func30, rfl, by decide⟩
  have h := fn_sound tt_ok mix_ok (x := slab_Slab_there_1.ann) (ins := slab_Slab_there_1.ins) (outs := slab_Slab_there_1.outs) (N := 20) Try.func30 (c := slab_Slab_there_1.code) rfl rfl (by kernel_rfl) (by kernel_rfl) slab_Slab_there_1.ok (by decide)
  rw [slab_Slab_there_1.eq] at h
  exact h

/-! ### (*wainwright/slab.Slab).Write: function 23 -/
noncomputable def slab_Slab_Write_1 : (Int × List UInt8) → Option (Int) := fun (i1, data2) =>
  (slab_Slab_call_1 ()).bind fun r9 =>
    if (r9 != 0) = true then
      some r9
    else
      (slab_Slab_there_1 i1).bind fun r15 =>
        if (!r15) = false then
          if decide ((data2.length : Int) > 128) = true then
            some 1
          else none
        else
          some 1

def slab_Slab_Write_1.ins : Spec := ⟨29, 0, [], [0, 1, 2], (.cons (.nilptr) (.cons (.v I) (.cons (.v .str) .nil)))⟩
def slab_Slab_Write_1.outs : List Spec := [⟨29, 0, [], [6], (.cons (.v I) .nil)⟩]
noncomputable def slab_Slab_Write_1.c : Callee' := ⟨23, mkFits slab_Slab_Write_1.ins slab_Slab_Write_1.outs, mkFun slab_Slab_Write_1.ins slab_Slab_Write_1.outs slab_Slab_Write_1⟩
theorem slab_Slab_Write_1.quiet : FunQuiet slab_Slab_Write_1.c.F := mkFun_quiet rfl rfl
noncomputable def slab_Slab_Write_1.ann : Ann :=
  (.seq (.reg []) (.seq (.seq (.reg [.std, .callq [slab_Slab_call_1.c]]) (.seq (.reg []) (.cond (.seq (.reg []) .std) .std))) (.seq (.seq (.reg [.std, .std, .callq [slab_Slab_there_1.c]]) (.cond (.seq (.reg []) .std) .std)) (.seq (.drw []) (.seq (.reg []) .std)))))
noncomputable def slab_Slab_Write_1.code : Code := match Try.f23.body with | some c => c | none => .skip
theorem slab_Slab_Write_1.eq : absFn tt 29 slab_Slab_Write_1.ins slab_Slab_Write_1.outs slab_Slab_Write_1.code slab_Slab_Write_1.ann = slab_Slab_Write_1 := by
  funext a
  kernel_rfl
theorem slab_Slab_Write_1.ok : slab_Slab_Write_1.ann.ok Try.prog 0 29 :=
  ann_ok (by kernel_rfl) (by kernel_rfl) (show ∀ c ∈ ([slab_Slab_call_1.c, slab_Slab_there_1.c] : List Callee'), c.ok Try.prog from cs_cons slab_Slab_call_1.sound (cs_cons slab_Slab_there_1.sound cs_nil))
    (show ∀ c ∈ ([slab_Slab_call_1.c, slab_Slab_there_1.c] : List Callee'), FunQuiet c.F from cs_cons slab_Slab_call_1.quiet (cs_cons slab_Slab_there_1.quiet cs_nil))
theorem slab_Slab_Write_1.sound : slab_Slab_Write_1.c.ok Try.prog := by
  refine ⟨?_, Try.f23, slab_Slab_Write_1.code, Try.func23, rfl, by decide⟩
  have h := fn_sound tt_ok mix_ok (x := slab_Slab_Write_1.ann) (ins := slab_Slab_Write_1.ins) (outs := slab_Slab_Write_1.outs) (N := 29) Try.func23 (c := slab_Slab_Write_1.code) rfl rfl (by kernel_rfl) (by kernel_rfl) slab_Slab_Write_1.ok (by decide)
  rw [slab_Slab_Write_1.eq] at h
  exact h

/-! ### (*wainwright/slab.Slab).Loose: function 17 -/
noncomputable def slab_Slab_Loose_1 : Unit → Option (List Int) := fun _ =>
  some ((([] : List Int)))

def slab_Slab_Loose_1.ins : Spec := ⟨11, 0, [], [0], (.cons (.nilptr) .nil)⟩
def slab_Slab_Loose_1.outs : List Spec := [⟨11, 0, [], [2], (.cons (.v (.sl I)) .nil)⟩]
noncomputable def slab_Slab_Loose_1.c : Callee' := ⟨17, mkFits slab_Slab_Loose_1.ins slab_Slab_Loose_1.outs, mkFun slab_Slab_Loose_1.ins slab_Slab_Loose_1.outs slab_Slab_Loose_1⟩
theorem slab_Slab_Loose_1.quiet : FunQuiet slab_Slab_Loose_1.c.F := mkFun_quiet rfl rfl
noncomputable def slab_Slab_Loose_1.ann : Ann :=
  (.seq (.reg []) (.seq (.seq (.reg [.std, .obj .bool]) (.cond (.seq (.reg []) .std) .std)) (.seq (.reg []) .std)))
noncomputable def slab_Slab_Loose_1.code : Code := match Try.f17.body with | some c => c | none => .skip
theorem slab_Slab_Loose_1.eq : absFn tt 11 slab_Slab_Loose_1.ins slab_Slab_Loose_1.outs slab_Slab_Loose_1.code slab_Slab_Loose_1.ann = slab_Slab_Loose_1 := by
  funext a
  kernel_rfl
theorem slab_Slab_Loose_1.ok : slab_Slab_Loose_1.ann.ok Try.prog 0 11 :=
  ann_ok (by kernel_rfl) (by kernel_rfl) (show ∀ c ∈ ([] : List Callee'), c.ok Try.prog from cs_nil)
    (show ∀ c ∈ ([] : List Callee'), FunQuiet c.F from cs_nil)
theorem slab_Slab_Loose_1.sound : slab_Slab_Loose_1.c.ok Try.prog := by
  refine ⟨?_, Try.f17, slab_Slab_Loose_1.code, Try.func17, rfl, by decide⟩
  have h := fn_sound tt_ok mix_ok (x := slab_Slab_Loose_1.ann) (ins := slab_Slab_Loose_1.ins) (outs := slab_Slab_Loose_1.outs) (N := 11) Try.func17 (c := slab_Slab_Loose_1.code) rfl rfl (by kernel_rfl) (by kernel_rfl) slab_Slab_Loose_1.ok (by decide)
  rw [slab_Slab_Loose_1.eq] at h
  exact h

/-! ### (*wainwright/slab.Slab).Flush: function 24 -/
noncomputable def slab_Slab_Flush_1x : Unit → Option (Int) := fun _ =>
  (slab_Slab_call_1 ()).bind fun r5 =>
    if (r5 == 0) = true then none else
    some r5

def slab_Slab_Flush_1x.ins : Spec := ⟨11, 0, [], [0], (.cons (.nilptr) .nil)⟩
def slab_Slab_Flush_1x.outs : List Spec := [⟨11, 0, [], [2], (.cons (.v I) .nil)⟩]
noncomputable def slab_Slab_Flush_1x.c : Callee' := ⟨24, mkFits slab_Slab_Flush_1x.ins slab_Slab_Flush_1x.outs, mkFun slab_Slab_Flush_1x.ins slab_Slab_Flush_1x.outs slab_Slab_Flush_1x⟩
theorem slab_Slab_Flush_1x.quiet : FunQuiet slab_Slab_Flush_1x.c.F := mkFun_quiet rfl rfl
noncomputable def slab_Slab_Flush_1x.ann : Ann :=
  (.seq (.reg []) (.seq (.reg [.std, .callq [slab_Slab_call_1.c]]) (.seq (.seq (.reg []) (.cond (.reg []) .std)) (.seq (.reg []) .std))))
noncomputable def slab_Slab_Flush_1x.code : Code := match Try.f24.body with | some c => c | none => .skip
theorem slab_Slab_Flush_1x.eq : absFn tt 11 slab_Slab_Flush_1x.ins slab_Slab_Flush_1x.outs slab_Slab_Flush_1x.code slab_Slab_Flush_1x.ann = slab_Slab_Flush_1x := by
  funext a
  kernel_rfl
theorem slab_Slab_Flush_1x.ok : slab_Slab_Flush_1x.ann.ok Try.prog 0 11 :=
  ann_ok (by kernel_rfl) (by kernel_rfl) (show ∀ c ∈ ([slab_Slab_call_1.c] : List Callee'), c.ok Try.prog from cs_cons slab_Slab_call_1.sound cs_nil)
    (show ∀ c ∈ ([slab_Slab_call_1.c] : List Callee'), FunQuiet c.F from cs_cons slab_Slab_call_1.quiet cs_nil)
theorem slab_Slab_Flush_1x.sound : slab_Slab_Flush_1x.c.ok Try.prog := by
  refine ⟨?_, Try.f24, slab_Slab_Flush_1x.code, Try.func24, rfl, by decide⟩
  have h := fn_sound tt_ok mix_ok (x := slab_Slab_Flush_1x.ann) (ins := slab_Slab_Flush_1x.ins) (outs := slab_Slab_Flush_1x.outs) (N := 11) Try.func24 (c := slab_Slab_Flush_1x.code) rfl rfl (by kernel_rfl) (by kernel_rfl) slab_Slab_Flush_1x.ok (by decide)
  rw [slab_Slab_Flush_1x.eq] at h
  exact h

/-! ### (*wainwright/slab.Slab).Stop: function 19 -/
noncomputable def slab_Slab_Stop : Int → Option (Unit) := fun n1 =>
  some ()

def slab_Slab_Stop.ins : Spec := ⟨21, 0, [], [0, 1], (.cons (.nilptr) (.cons (.v I) .nil))⟩
def slab_Slab_Stop.outs : List Spec := [⟨21, 0, [], [], .nil⟩]
noncomputable def slab_Slab_Stop.c : Callee' := ⟨19, mkFits slab_Slab_Stop.ins slab_Slab_Stop.outs, mkFun slab_Slab_Stop.ins slab_Slab_Stop.outs slab_Slab_Stop⟩
theorem slab_Slab_Stop.quiet : FunQuiet slab_Slab_Stop.c.F := mkFun_quiet rfl rfl
noncomputable def slab_Slab_Stop.ann : Ann :=
  (.block (.seq (.reg [.std, .obj .bool]) (.cond .std (.join []
  (.reg []) (.cond (.reg []) (.reg []))))))
noncomputable def slab_Slab_Stop.code : Code := match Try.f19.body with | some c => c | none => .skip
theorem slab_Slab_Stop.eq : absFn tt 21 slab_Slab_Stop.ins slab_Slab_Stop.outs slab_Slab_Stop.code slab_Slab_Stop.ann = slab_Slab_Stop := by
  funext a
  kernel_rfl
theorem slab_Slab_Stop.ok : slab_Slab_Stop.ann.ok Try.prog 0 21 :=
  ann_ok (by kernel_rfl) (by kernel_rfl) (show ∀ c ∈ ([] : List Callee'), c.ok Try.prog from cs_nil)
    (show ∀ c ∈ ([] : List Callee'), FunQuiet c.F from cs_nil)
theorem slab_Slab_Stop.sound : slab_Slab_Stop.c.ok Try.prog := by
  refine ⟨?_, Try.f19, slab_Slab_Stop.code, Try.func19, rfl, by decide⟩
  have h := fn_sound tt_ok mix_ok (x := slab_Slab_Stop.ann) (ins := slab_Slab_Stop.ins) (outs := slab_Slab_Stop.outs) (N := 21) Try.func19 (c := slab_Slab_Stop.code) rfl rfl (by kernel_rfl) (by kernel_rfl) slab_Slab_Stop.ok (by decide)
  rw [slab_Slab_Stop.eq] at h
  exact h

/-! ### (*wainwright/slab.Slab).Crash: function 10 -/
noncomputable def slab_Slab_Crash_1x : List Bool → Option (Unit) := fun keep1 =>
  some ()

def slab_Slab_Crash_1x.ins : Spec := ⟨12, 0, [], [0, 1], (.cons (.nilptr) (.cons (.v (.sl .bool)) .nil))⟩
def slab_Slab_Crash_1x.outs : List Spec := [⟨12, 0, [], [], .nil⟩]
noncomputable def slab_Slab_Crash_1x.c : Callee' := ⟨10, mkFits slab_Slab_Crash_1x.ins slab_Slab_Crash_1x.outs, mkFun slab_Slab_Crash_1x.ins slab_Slab_Crash_1x.outs slab_Slab_Crash_1x⟩
theorem slab_Slab_Crash_1x.quiet : FunQuiet slab_Slab_Crash_1x.c.F := mkFun_quiet rfl rfl
noncomputable def slab_Slab_Crash_1x.ann : Ann :=
  (.seq (.reg []) (.seq (.seq (.reg [.std, .obj .bool]) (.cond .std .std)) (.seq (.reg []) (.reg []))))
noncomputable def slab_Slab_Crash_1x.code : Code := match Try.f10.body with | some c => c | none => .skip
theorem slab_Slab_Crash_1x.eq : absFn tt 12 slab_Slab_Crash_1x.ins slab_Slab_Crash_1x.outs slab_Slab_Crash_1x.code slab_Slab_Crash_1x.ann = slab_Slab_Crash_1x := by
  funext a
  kernel_rfl
theorem slab_Slab_Crash_1x.ok : slab_Slab_Crash_1x.ann.ok Try.prog 0 12 :=
  ann_ok (by kernel_rfl) (by kernel_rfl) (show ∀ c ∈ ([] : List Callee'), c.ok Try.prog from cs_nil)
    (show ∀ c ∈ ([] : List Callee'), FunQuiet c.F from cs_nil)
theorem slab_Slab_Crash_1x.sound : slab_Slab_Crash_1x.c.ok Try.prog := by
  refine ⟨?_, Try.f10, slab_Slab_Crash_1x.code, Try.func10, rfl, by decide⟩
  have h := fn_sound tt_ok mix_ok (x := slab_Slab_Crash_1x.ann) (ins := slab_Slab_Crash_1x.ins) (outs := slab_Slab_Crash_1x.outs) (N := 12) Try.func10 (c := slab_Slab_Crash_1x.code) rfl rfl (by kernel_rfl) (by kernel_rfl) slab_Slab_Crash_1x.ok (by decide)
  rw [slab_Slab_Crash_1x.eq] at h
  exact h

/-! ### wainwright/wainwrightlaw02.does: function 22 -/
noncomputable def wainwrightlaw02_does : (Int × Int × List UInt8 × List Bool) → Option (Int) := fun ov1 =>
  (wainwrightlaw02_Op_kind (ov1.1, ov1.2.1, ov1.2.2.1, ov1.2.2.2)).bind fun r6 =>
    if (r6 == 0) = true then
      (slab_Slab_Write_1 (ov1.2.1, ov1.2.2.1)).bind fun r14 =>
        some r14
    else
      if (r6 == 1) = true then
        (slab_Slab_Flush_1x ()).bind fun r18 =>
          some r18
      else
        if (r6 == 2) = true then
          (slab_Slab_Stop ov1.2.1).bind fun _ =>
            some 0
        else
          if (r6 == 3) = true then
            (slab_Slab_Crash_1x ov1.2.2.2).bind fun _ =>
              some 0
          else
            some 0

def wainwrightlaw02_does.ins : Spec := ⟨31, 0, [], [0, 1], (.cons (.nilptr) (.cons (.v (.st (.pair I (.pair I (.pair .str (.sl .bool)))))) .nil))⟩
def wainwrightlaw02_does.outs : List Spec := [⟨31, 0, [], [4], (.cons (.v I) .nil)⟩]
noncomputable def wainwrightlaw02_does.c : Callee' := ⟨22, mkFits wainwrightlaw02_does.ins wainwrightlaw02_does.outs, mkFun wainwrightlaw02_does.ins wainwrightlaw02_does.outs wainwrightlaw02_does⟩
theorem wainwrightlaw02_does.quiet : FunQuiet wainwrightlaw02_does.c.F := mkFun_quiet rfl rfl
noncomputable def wainwrightlaw02_does.ann : Ann :=
  (.seq (.reg []) (.seq (.seq (.reg [.std, .callq [wainwrightlaw02_Op_kind.c]]) (.block (.seq (.reg []) (.cond (.seq (.reg [.std, .std, .std, .std, .std, .callq [slab_Slab_Write_1.c]]) .std) (.seq (.reg []) (.cond (.seq (.reg [.std, .callq [slab_Slab_Flush_1x.c]]) .std) (.seq (.reg []) (.cond (.reg [.std, .std, .std, .callq [slab_Slab_Stop.c]]) (.seq (.reg []) (.cond (.reg [.std, .std, .std, .callq [slab_Slab_Crash_1x.c]]) .std)))))))))) (.seq (.reg []) .std)))
noncomputable def wainwrightlaw02_does.code : Code := match Try.f22.body with | some c => c | none => .skip
theorem wainwrightlaw02_does.eq : absFn tt 31 wainwrightlaw02_does.ins wainwrightlaw02_does.outs wainwrightlaw02_does.code wainwrightlaw02_does.ann = wainwrightlaw02_does := by
  funext a
  kernel_rfl
theorem wainwrightlaw02_does.ok : wainwrightlaw02_does.ann.ok Try.prog 0 31 :=
  ann_ok (by kernel_rfl) (by kernel_rfl) (show ∀ c ∈ ([wainwrightlaw02_Op_kind.c, slab_Slab_Write_1.c, slab_Slab_Flush_1x.c, slab_Slab_Stop.c, slab_Slab_Crash_1x.c] : List Callee'), c.ok Try.prog from cs_cons wainwrightlaw02_Op_kind.sound (cs_cons slab_Slab_Write_1.sound (cs_cons slab_Slab_Flush_1x.sound (cs_cons slab_Slab_Stop.sound (cs_cons slab_Slab_Crash_1x.sound cs_nil)))))
    (show ∀ c ∈ ([wainwrightlaw02_Op_kind.c, slab_Slab_Write_1.c, slab_Slab_Flush_1x.c, slab_Slab_Stop.c, slab_Slab_Crash_1x.c] : List Callee'), FunQuiet c.F from cs_cons wainwrightlaw02_Op_kind.quiet (cs_cons slab_Slab_Write_1.quiet (cs_cons slab_Slab_Flush_1x.quiet (cs_cons slab_Slab_Stop.quiet (cs_cons slab_Slab_Crash_1x.quiet cs_nil)))))
theorem wainwrightlaw02_does.sound : wainwrightlaw02_does.c.ok Try.prog := by
  refine ⟨?_, Try.f22, wainwrightlaw02_does.code, Try.func22, rfl, by decide⟩
  have h := fn_sound tt_ok mix_ok (x := wainwrightlaw02_does.ann) (ins := wainwrightlaw02_does.ins) (outs := wainwrightlaw02_does.outs) (N := 31) Try.func22 (c := wainwrightlaw02_does.code) rfl rfl (by kernel_rfl) (by kernel_rfl) wainwrightlaw02_does.ok (by decide)
  rw [wainwrightlaw02_does.eq] at h
  exact h

/-! ### (*wainwright/slab.Slab).Read: function 16 -/
noncomputable def slab_Slab_Read_1 : Int → Option (List UInt8) := fun i1 =>
  (slab_Slab_there_1 i1).bind fun r9 =>
    if (!r9) = true then
      some []
    else none

def slab_Slab_Read_1.ins : Spec := ⟨29, 0, [], [0, 1], (.cons (.nilptr) (.cons (.v I) .nil))⟩
def slab_Slab_Read_1.outs : List Spec := [⟨29, 0, [], [4], (.cons (.v .str) .nil)⟩]
noncomputable def slab_Slab_Read_1.c : Callee' := ⟨16, mkFits slab_Slab_Read_1.ins slab_Slab_Read_1.outs, mkFun slab_Slab_Read_1.ins slab_Slab_Read_1.outs slab_Slab_Read_1⟩
theorem slab_Slab_Read_1.quiet : FunQuiet slab_Slab_Read_1.c.F := mkFun_quiet rfl rfl
noncomputable def slab_Slab_Read_1.ann : Ann :=
  (.seq (.reg []) (.seq (.seq (.reg [.std, .std, .callq [slab_Slab_there_1.c]]) (.cond (.seq (.reg []) .std) .std)) (.seq (.seq (.reg []) (.seq (.reg []) (.cond (.seq (.reg []) .std) .std))) (.seq (.reg []) .std))))
noncomputable def slab_Slab_Read_1.code : Code := match Try.f16.body with | some c => c | none => .skip
theorem slab_Slab_Read_1.eq : absFn tt 29 slab_Slab_Read_1.ins slab_Slab_Read_1.outs slab_Slab_Read_1.code slab_Slab_Read_1.ann = slab_Slab_Read_1 := by
  funext a
  kernel_rfl
theorem slab_Slab_Read_1.ok : slab_Slab_Read_1.ann.ok Try.prog 0 29 :=
  ann_ok (by kernel_rfl) (by kernel_rfl) (show ∀ c ∈ ([slab_Slab_there_1.c] : List Callee'), c.ok Try.prog from cs_cons slab_Slab_there_1.sound cs_nil)
    (show ∀ c ∈ ([slab_Slab_there_1.c] : List Callee'), FunQuiet c.F from cs_cons slab_Slab_there_1.quiet cs_nil)
theorem slab_Slab_Read_1.sound : slab_Slab_Read_1.c.ok Try.prog := by
  refine ⟨?_, Try.f16, slab_Slab_Read_1.code, Try.func16, rfl, by decide⟩
  have h := fn_sound tt_ok mix_ok (x := slab_Slab_Read_1.ann) (ins := slab_Slab_Read_1.ins) (outs := slab_Slab_Read_1.outs) (N := 29) Try.func16 (c := slab_Slab_Read_1.code) rfl rfl (by kernel_rfl) (by kernel_rfl) slab_Slab_Read_1.ok (by decide)
  rw [slab_Slab_Read_1.eq] at h
  exact h

/-! ### (*wainwright/slab.Slab).Image: function 14 -/
noncomputable def slab_Slab_Image : Unit → Option (List (List UInt8)) := fun _ =>
  some ((([] : List (List UInt8))))

def slab_Slab_Image.ins : Spec := ⟨28, 0, [], [0], (.cons (.nilptr) .nil)⟩
def slab_Slab_Image.outs : List Spec := [⟨28, 0, [], [2], (.cons (.v (.sl .str)) .nil)⟩]
noncomputable def slab_Slab_Image.c : Callee' := ⟨14, mkFits slab_Slab_Image.ins slab_Slab_Image.outs, mkFun slab_Slab_Image.ins slab_Slab_Image.outs slab_Slab_Image⟩
theorem slab_Slab_Image.quiet : FunQuiet slab_Slab_Image.c.F := mkFun_quiet rfl rfl
noncomputable def slab_Slab_Image.ann : Ann :=
  (.seq (.reg []) (.seq (.seq (.reg [.std, .obj .bool]) (.cond (.seq (.reg []) .std) .std)) (.seq (.reg []) (.seq (.seq (.reg []) (.block .std)) (.seq (.reg []) .std)))))
noncomputable def slab_Slab_Image.code : Code := match Try.f14.body with | some c => c | none => .skip
theorem slab_Slab_Image.eq : absFn tt 28 slab_Slab_Image.ins slab_Slab_Image.outs slab_Slab_Image.code slab_Slab_Image.ann = slab_Slab_Image := by
  funext a
  kernel_rfl
theorem slab_Slab_Image.ok : slab_Slab_Image.ann.ok Try.prog 0 28 :=
  ann_ok (by kernel_rfl) (by kernel_rfl) (show ∀ c ∈ ([] : List Callee'), c.ok Try.prog from cs_nil)
    (show ∀ c ∈ ([] : List Callee'), FunQuiet c.F from cs_nil)
theorem slab_Slab_Image.sound : slab_Slab_Image.c.ok Try.prog := by
  refine ⟨?_, Try.f14, slab_Slab_Image.code, Try.func14, rfl, by decide⟩
  have h := fn_sound tt_ok mix_ok (x := slab_Slab_Image.ann) (ins := slab_Slab_Image.ins) (outs := slab_Slab_Image.outs) (N := 28) Try.func14 (c := slab_Slab_Image.code) rfl rfl (by kernel_rfl) (by kernel_rfl) slab_Slab_Image.ok (by decide)
  rw [slab_Slab_Image.eq] at h
  exact h

/-! ### (*wainwright/slab.Slab).Size: function 15 -/
noncomputable def slab_Slab_Size_1 : Unit → Option (Int) := fun _ =>
  some 0

def slab_Slab_Size_1.ins : Spec := ⟨10, 0, [], [0], (.cons (.nilptr) .nil)⟩
def slab_Slab_Size_1.outs : List Spec := [⟨10, 0, [], [2], (.cons (.v I) .nil)⟩]
noncomputable def slab_Slab_Size_1.c : Callee' := ⟨15, mkFits slab_Slab_Size_1.ins slab_Slab_Size_1.outs, mkFun slab_Slab_Size_1.ins slab_Slab_Size_1.outs slab_Slab_Size_1⟩
theorem slab_Slab_Size_1.quiet : FunQuiet slab_Slab_Size_1.c.F := mkFun_quiet rfl rfl
noncomputable def slab_Slab_Size_1.ann : Ann :=
  (.seq (.reg []) (.seq (.seq (.reg [.std, .obj .bool]) (.cond (.seq (.reg []) .std) .std)) (.seq (.reg []) .std)))
noncomputable def slab_Slab_Size_1.code : Code := match Try.f15.body with | some c => c | none => .skip
theorem slab_Slab_Size_1.eq : absFn tt 10 slab_Slab_Size_1.ins slab_Slab_Size_1.outs slab_Slab_Size_1.code slab_Slab_Size_1.ann = slab_Slab_Size_1 := by
  funext a
  kernel_rfl
theorem slab_Slab_Size_1.ok : slab_Slab_Size_1.ann.ok Try.prog 0 10 :=
  ann_ok (by kernel_rfl) (by kernel_rfl) (show ∀ c ∈ ([] : List Callee'), c.ok Try.prog from cs_nil)
    (show ∀ c ∈ ([] : List Callee'), FunQuiet c.F from cs_nil)
theorem slab_Slab_Size_1.sound : slab_Slab_Size_1.c.ok Try.prog := by
  refine ⟨?_, Try.f15, slab_Slab_Size_1.code, Try.func15, rfl, by decide⟩
  have h := fn_sound tt_ok mix_ok (x := slab_Slab_Size_1.ann) (ins := slab_Slab_Size_1.ins) (outs := slab_Slab_Size_1.outs) (N := 10) Try.func15 (c := slab_Slab_Size_1.code) rfl rfl (by kernel_rfl) (by kernel_rfl) slab_Slab_Size_1.ok (by decide)
  rw [slab_Slab_Size_1.eq] at h
  exact h

/-! ### (*wainwright/slab.Slab).Calls: function 21 -/
noncomputable def slab_Slab_Calls_1 : Unit → Option (Int) := fun _ =>
  some 0

def slab_Slab_Calls_1.ins : Spec := ⟨9, 0, [], [0], (.cons (.nilptr) .nil)⟩
def slab_Slab_Calls_1.outs : List Spec := [⟨9, 0, [], [2], (.cons (.v I) .nil)⟩]
noncomputable def slab_Slab_Calls_1.c : Callee' := ⟨21, mkFits slab_Slab_Calls_1.ins slab_Slab_Calls_1.outs, mkFun slab_Slab_Calls_1.ins slab_Slab_Calls_1.outs slab_Slab_Calls_1⟩
theorem slab_Slab_Calls_1.quiet : FunQuiet slab_Slab_Calls_1.c.F := mkFun_quiet rfl rfl
noncomputable def slab_Slab_Calls_1.ann : Ann :=
  (.seq (.reg []) (.seq (.seq (.reg [.std, .obj .bool]) (.cond (.seq (.reg []) .std) .std)) (.seq (.reg []) .std)))
noncomputable def slab_Slab_Calls_1.code : Code := match Try.f21.body with | some c => c | none => .skip
theorem slab_Slab_Calls_1.eq : absFn tt 9 slab_Slab_Calls_1.ins slab_Slab_Calls_1.outs slab_Slab_Calls_1.code slab_Slab_Calls_1.ann = slab_Slab_Calls_1 := by
  funext a
  kernel_rfl
theorem slab_Slab_Calls_1.ok : slab_Slab_Calls_1.ann.ok Try.prog 0 9 :=
  ann_ok (by kernel_rfl) (by kernel_rfl) (show ∀ c ∈ ([] : List Callee'), c.ok Try.prog from cs_nil)
    (show ∀ c ∈ ([] : List Callee'), FunQuiet c.F from cs_nil)
theorem slab_Slab_Calls_1.sound : slab_Slab_Calls_1.c.ok Try.prog := by
  refine ⟨?_, Try.f21, slab_Slab_Calls_1.code, Try.func21, rfl, by decide⟩
  have h := fn_sound tt_ok mix_ok (x := slab_Slab_Calls_1.ann) (ins := slab_Slab_Calls_1.ins) (outs := slab_Slab_Calls_1.outs) (N := 9) Try.func21 (c := slab_Slab_Calls_1.code) rfl rfl (by kernel_rfl) (by kernel_rfl) slab_Slab_Calls_1.ok (by decide)
  rw [slab_Slab_Calls_1.eq] at h
  exact h

/-! ### wainwright/wainwrightlaw02.SlabNil: function 5 -/
noncomputable def wainwrightlaw02_SlabNil : (Int × Int × List UInt8 × List Bool) → Option (Bool) := fun ov0 =>
  (wainwrightlaw02_lives ()).bind fun r5 =>
    if (!r5) = true then
      some false
    else
      (wainwrightlaw02_does (ov0.1, ov0.2.1, ov0.2.2.1, ov0.2.2.2)).bind fun r9 =>
        (wainwrightlaw02_Op_kind (ov0.1, ov0.2.1, ov0.2.2.1, ov0.2.2.2)).bind fun r13 =>
          if ((r9 == 1) == decide (r13 < 2)) = true then
            (slab_Slab_Read_1 ov0.2.1).bind fun r20 =>
              if (r20 == []) = true then
                (slab_Slab_Image ()).bind fun r25 =>
                  if ((r25.length : Int) == 0) = true then
                    (slab_Slab_Size_1 ()).bind fun r31 =>
                      if (r31 == 0) = true then
                        (slab_Slab_Calls_1 ()).bind fun r36 =>
                          if (r36 == 0) = true then
                            (slab_Slab_Loose_1 ()).bind fun r41 =>
                              some ((((r41.length : Int) == 0)))
                          else
                            some false
                      else
                        some false
                  else
                    some false
              else
                some false
          else
            some false

def wainwrightlaw02_SlabNil.ins : Spec := ⟨45, 0, [], [0], (.cons (.v (.st (.pair I (.pair I (.pair .str (.sl .bool)))))) .nil)⟩
def wainwrightlaw02_SlabNil.outs : List Spec := [⟨45, 0, [], [2], (.cons (.v .bool) .nil)⟩]
noncomputable def wainwrightlaw02_SlabNil.c : Callee' := ⟨5, mkFits wainwrightlaw02_SlabNil.ins wainwrightlaw02_SlabNil.outs, mkFun wainwrightlaw02_SlabNil.ins wainwrightlaw02_SlabNil.outs wainwrightlaw02_SlabNil⟩
theorem wainwrightlaw02_SlabNil.quiet : FunQuiet wainwrightlaw02_SlabNil.c.F := mkFun_quiet rfl rfl
noncomputable def wainwrightlaw02_SlabNil.ann : Ann :=
  (.seq (.reg []) (.seq (.seq (.reg [.callq [wainwrightlaw02_lives.c]]) (.cond (.seq (.reg []) .std) .std)) (.seq (.reg []) (.seq (.reg [.std, .std, .callq [wainwrightlaw02_does.c]]) (.seq (.reg [.std, .std, .std, .callq [wainwrightlaw02_Op_kind.c], .std, .std, .std, .std, .std, .std, .callq [slab_Slab_Read_1.c], .std, .std, .std, .std, .callq [slab_Slab_Image.c], .std, .std, .std, .std, .std, .callq [slab_Slab_Size_1.c], .std, .std, .std, .std, .callq [slab_Slab_Calls_1.c], .std, .std, .std, .std, .callq [slab_Slab_Loose_1.c]]) .std)))))
noncomputable def wainwrightlaw02_SlabNil.code : Code := match Try.f5.body with | some c => c | none => .skip
theorem wainwrightlaw02_SlabNil.eq : absFn tt 45 wainwrightlaw02_SlabNil.ins wainwrightlaw02_SlabNil.outs wainwrightlaw02_SlabNil.code wainwrightlaw02_SlabNil.ann = wainwrightlaw02_SlabNil := by
  funext a
  kernel_rfl
theorem wainwrightlaw02_SlabNil.ok : wainwrightlaw02_SlabNil.ann.ok Try.prog 0 45 :=
  ann_ok (by kernel_rfl) (by kernel_rfl) (show ∀ c ∈ ([wainwrightlaw02_lives.c, wainwrightlaw02_does.c, wainwrightlaw02_Op_kind.c, slab_Slab_Read_1.c, slab_Slab_Image.c, slab_Slab_Size_1.c, slab_Slab_Calls_1.c, slab_Slab_Loose_1.c] : List Callee'), c.ok Try.prog from cs_cons wainwrightlaw02_lives.sound (cs_cons wainwrightlaw02_does.sound (cs_cons wainwrightlaw02_Op_kind.sound (cs_cons slab_Slab_Read_1.sound (cs_cons slab_Slab_Image.sound (cs_cons slab_Slab_Size_1.sound (cs_cons slab_Slab_Calls_1.sound (cs_cons slab_Slab_Loose_1.sound cs_nil))))))))
    (show ∀ c ∈ ([wainwrightlaw02_lives.c, wainwrightlaw02_does.c, wainwrightlaw02_Op_kind.c, slab_Slab_Read_1.c, slab_Slab_Image.c, slab_Slab_Size_1.c, slab_Slab_Calls_1.c, slab_Slab_Loose_1.c] : List Callee'), FunQuiet c.F from cs_cons wainwrightlaw02_lives.quiet (cs_cons wainwrightlaw02_does.quiet (cs_cons wainwrightlaw02_Op_kind.quiet (cs_cons slab_Slab_Read_1.quiet (cs_cons slab_Slab_Image.quiet (cs_cons slab_Slab_Size_1.quiet (cs_cons slab_Slab_Calls_1.quiet (cs_cons slab_Slab_Loose_1.quiet cs_nil))))))))
theorem wainwrightlaw02_SlabNil.sound : wainwrightlaw02_SlabNil.c.ok Try.prog := by
  refine ⟨?_, Try.f5, wainwrightlaw02_SlabNil.code, Try.func5, rfl, by decide⟩
  have h := fn_sound tt_ok mix_ok (x := wainwrightlaw02_SlabNil.ann) (ins := wainwrightlaw02_SlabNil.ins) (outs := wainwrightlaw02_SlabNil.outs) (N := 45) Try.func5 (c := wainwrightlaw02_SlabNil.code) rfl rfl (by kernel_rfl) (by kernel_rfl) wainwrightlaw02_SlabNil.ok (by decide)
  rw [wainwrightlaw02_SlabNil.eq] at h
  exact h

/-! ### wainwright/wainwrightref02.Load: function 9 -/
noncomputable def wainwrightref02_Load.l1 : (((Int × Int) × List (List UInt8) × List (List UInt8) × List Bool) × List (List UInt8) × Int) → Option ((((Int × Int) × List (List UInt8) × List (List UInt8) × List Bool) × List (List UInt8) × Int) ⊕ ((Int × Int) × List (List UInt8) × List (List UInt8) × List Bool)) := fun (((s3d, s3e), o1, o2, o3), image0, i4) =>
  if decide (i4 < (image0.length : Int)) = true then
    if decide (i4 < 1000) = true then
      if 0 ≤ i4 ∧ i4 < (image0.length : Int) then
        (wainwrightref02_Whole (image0.getD i4.toNat [])).bind fun r26 =>
          if roomOk (o1.length + (([r26] : List (List UInt8))).length) 16 then
            if 0 ≤ i4 ∧ i4 < (image0.length : Int) then
              (wainwrightref02_Whole (image0.getD i4.toNat [])).bind fun r40 =>
                if roomOk (o2.length + (([r40] : List (List UInt8))).length) 16 then
                  if roomOk (o3.length + (([false] : List Bool)).length) 1 then
                    some (.inl ((((s3d, s3e), o1 ++ (([r26] : List (List UInt8))), o2 ++ (([r40] : List (List UInt8))), o3 ++ (([false] : List Bool))), image0, IntKind.i64.wrap (i4 + 1))))
                  else none
                else none
            else none
          else none
      else none
    else
      some (.inr ((((s3d, s3e), o1, o2, o3))))
  else
    some (.inr ((((s3d, s3e), o1, o2, o3))))

noncomputable def wainwrightref02_Load : List (List UInt8) → Option ((Int × Int) × List (List UInt8) × List (List UInt8) × List Bool) := fun image0 =>
  (loopO wainwrightref02_Load.l1 ((((0, (-1)), [], [], []), image0, 0))).bind fun ((s3d, s3e), o1, o2, o3) =>
    some ((((s3d, s3e), o1, o2, o3)))

def wainwrightref02_Load.ins : Spec := ⟨55, 0, [], [0], (.cons (.v (.sl .str)) .nil)⟩
def wainwrightref02_Load.outs : List Spec := [⟨55, 0, [.box (.cons (.ref 1) (.cons (.ref 2) (.cons (.ref 3) (.cons (.v I) (.cons (.v I) .nil))))), .arr .str, .arr .str, .arr .bool], [2], (.cons (.ref 0) .nil)⟩]
noncomputable def wainwrightref02_Load.c : Callee' := ⟨9, mkFits wainwrightref02_Load.ins wainwrightref02_Load.outs, mkFun wainwrightref02_Load.ins wainwrightref02_Load.outs wainwrightref02_Load⟩
noncomputable def wainwrightref02_Load.ann : Ann :=
  (.seq (.reg []) (.seq (.reg []) (.seq (.seq (.reg []) (.block (.loop ⟨55, 0, [.box (.cons (.ref 1) (.cons (.ref 2) (.cons (.ref 3) (.cons (.v I) (.cons (.v I) .nil))))), .arr .str, .arr .str, .arr .bool], [0, 3, 4], (.cons (.v (.sl .str)) (.cons (.ref 0) (.cons (.v I) .nil)))⟩ [(.exit 0, ⟨55, 0, [.box (.cons (.ref 1) (.cons (.ref 2) (.cons (.ref 3) (.cons (.v I) (.cons (.v I) .nil))))), .arr .str, .arr .str, .arr .bool], [3], (.cons (.ref 0) .nil)⟩)]
  (.seq (.seq (.reg []) (.cond .std .std)) (.seq (.block (.seq (.drw [.std, .std, .std, .std, .std, .std, .std, .std, .std, .callq [wainwrightref02_Whole.c], .inl .str, .obj .str]) (.seq (.drw [.std, .std, .std, .std, .std, .std, .std, .std, .std, .callq [wainwrightref02_Whole.c], .inl .str, .obj .str]) (.reg [.std, .std, .std, .std, .std, .inl .bool, .obj .bool])))) (.reg [])))))) (.seq (.reg []) .std))))
noncomputable def wainwrightref02_Load.code : Code := match Try.f9.body with | some c => c | none => .skip
theorem wainwrightref02_Load.eq : absFn tt 55 wainwrightref02_Load.ins wainwrightref02_Load.outs wainwrightref02_Load.code wainwrightref02_Load.ann = wainwrightref02_Load := by
  funext a
  kernel_rfl
theorem wainwrightref02_Load.ok : wainwrightref02_Load.ann.ok Try.prog 0 55 :=
  ann_ok (by kernel_rfl) (by kernel_rfl) (show ∀ c ∈ ([wainwrightref02_Whole.c, wainwrightref02_Whole.c] : List Callee'), c.ok Try.prog from cs_cons wainwrightref02_Whole.sound (cs_cons wainwrightref02_Whole.sound cs_nil))
    (show ∀ c ∈ ([wainwrightref02_Whole.c, wainwrightref02_Whole.c] : List Callee'), FunQuiet c.F from cs_cons wainwrightref02_Whole.quiet (cs_cons wainwrightref02_Whole.quiet cs_nil))
theorem wainwrightref02_Load.sound : wainwrightref02_Load.c.ok Try.prog := by
  refine ⟨?_, Try.f9, wainwrightref02_Load.code, Try.func9, rfl, by decide⟩
  have h := fn_sound tt_ok mix_ok (x := wainwrightref02_Load.ann) (ins := wainwrightref02_Load.ins) (outs := wainwrightref02_Load.outs) (N := 55) Try.func9 (c := wainwrightref02_Load.code) rfl rfl (by kernel_rfl) (by kernel_rfl) wainwrightref02_Load.ok (by decide)
  rw [wainwrightref02_Load.eq] at h
  exact h

/-! ### wainwright/wainwrightlaw02.texts: function 13 -/
noncomputable def wainwrightlaw02_texts.l1 : (List (List UInt8) × List (List UInt8) × Int) → Option ((List (List UInt8) × List (List UInt8) × Int) ⊕ (Unit ⊕ Bool)) := fun (a0, b1, i5) =>
  if decide (i5 < (a0.length : Int)) = true then
    if 0 ≤ i5 ∧ i5 < (a0.length : Int) then
      if 0 ≤ i5 ∧ i5 < (b1.length : Int) then
        if (!((a0.getD i5.toNat []) == (b1.getD i5.toNat []))) = true then
          some (.inr (.inr false))
        else
          some (.inl ((a0, b1, IntKind.i64.wrap (i5 + 1))))
      else none
    else none
  else
    some (.inr (.inl ()))

noncomputable def wainwrightlaw02_texts : (List (List UInt8) × List (List UInt8)) → Option (Bool) := fun (a0, b1) =>
  if ((a0.length : Int) != (b1.length : Int)) = true then
    some false
  else
    (loopO wainwrightlaw02_texts.l1 ((a0, b1, 0))).bind fun d => match d with
    | .inl _ =>
      some true
    | .inr t4 =>
      some t4

def wainwrightlaw02_texts.ins : Spec := ⟨26, 0, [], [0, 1], (.cons (.v (.sl .str)) (.cons (.v (.sl .str)) .nil))⟩
def wainwrightlaw02_texts.outs : List Spec := [⟨26, 0, [], [4], (.cons (.v .bool) .nil)⟩]
noncomputable def wainwrightlaw02_texts.c : Callee' := ⟨13, mkFits wainwrightlaw02_texts.ins wainwrightlaw02_texts.outs, mkFun wainwrightlaw02_texts.ins wainwrightlaw02_texts.outs wainwrightlaw02_texts⟩
theorem wainwrightlaw02_texts.quiet : FunQuiet wainwrightlaw02_texts.c.F := mkFun_quiet rfl rfl
noncomputable def wainwrightlaw02_texts.ann : Ann :=
  (.seq (.reg []) (.seq (.seq (.reg []) (.cond (.seq (.reg []) .std) .std)) (.seq (.seq (.reg []) (.block (.loop ⟨26, 0, [], [0, 1, 5], (.cons (.v (.sl .str)) (.cons (.v (.sl .str)) (.cons (.v I) .nil)))⟩ [(.exit 0, ⟨26, 0, [], [], .nil⟩), (.ret, ⟨26, 0, [], [4], (.cons (.v .bool) .nil)⟩)]
  (.seq (.seq (.reg []) (.cond .std .std)) (.seq (.block (.seq (.drw []) (.cond (.seq (.reg []) .std) .std))) (.reg [])))))) (.seq (.reg []) .std))))
noncomputable def wainwrightlaw02_texts.code : Code := match Try.f13.body with | some c => c | none => .skip
theorem wainwrightlaw02_texts.eq : absFn tt 26 wainwrightlaw02_texts.ins wainwrightlaw02_texts.outs wainwrightlaw02_texts.code wainwrightlaw02_texts.ann = wainwrightlaw02_texts := by
  funext a
  kernel_rfl
theorem wainwrightlaw02_texts.ok : wainwrightlaw02_texts.ann.ok Try.prog 0 26 :=
  ann_ok (by kernel_rfl) (by kernel_rfl) (show ∀ c ∈ ([] : List Callee'), c.ok Try.prog from cs_nil)
    (show ∀ c ∈ ([] : List Callee'), FunQuiet c.F from cs_nil)
theorem wainwrightlaw02_texts.sound : wainwrightlaw02_texts.c.ok Try.prog := by
  refine ⟨?_, Try.f13, wainwrightlaw02_texts.code, Try.func13, rfl, by decide⟩
  have h := fn_sound tt_ok mix_ok (x := wainwrightlaw02_texts.ann) (ins := wainwrightlaw02_texts.ins) (outs := wainwrightlaw02_texts.outs) (N := 26) Try.func13 (c := wainwrightlaw02_texts.code) rfl rfl (by kernel_rfl) (by kernel_rfl) wainwrightlaw02_texts.ok (by decide)
  rw [wainwrightlaw02_texts.eq] at h
  exact h

/-! ### wainwright/wainwrightlaw02.SlabLoads: function 3 -/
noncomputable def wainwrightlaw02_SlabLoads : (List (List UInt8) × Int) → Option (Bool) := fun (image0, n1) =>
  (wainwrightlaw02_lives ()).bind fun r10 =>
    if (!r10) = true then
      some false
    else
      (slab_Load image0).bind fun ((r13, r13_2), r13_3, r13_4) =>
        (wainwrightref02_Load image0).bind fun ((r15, r15_2), r15_3, r15_4, r15_5) =>
          (slab_Slab_Crash (((r13, r13_2), r13_3, r13_4), ([] : List Bool))).bind fun ((r17, r17_2), r17_3, r17_4) =>
            (slab_New n1).bind fun ((r19, r19_2), r19_3, r19_4) =>
              (wainwrightref02_Whole []).bind fun r23 =>
                (slab_Image ((r17, r17_2), r17_3, r17_4)).bind fun ((_, _, _), r25) =>
                  (wainwrightlaw02_texts (r25, r15_4)).bind fun r30 =>
                    if r30 = true then
                      (slab_Slab_Size (r17_3, r17_4, r17, r17_2)).bind fun r33 =>
                        if (r33 == (r15_4.length : Int)) = true then
                          (slab_Slab_Size (r19_3, r19_4, r19, r19_2)).bind fun r43 =>
                            if (r43 == (if 1000 < (if 0 > n1 then 0 else n1) then 1000 else (if 0 > n1 then 0 else n1))) = true then
                              if ((if 1000 < (if 0 > n1 then 0 else n1) then 1000 else (if 0 > n1 then 0 else n1)) == 0) = false then
                                (slab_Slab_Read ((r19_3, r19_4, r19, r19_2), IntKind.i64.wrap ((if 1000 < (if 0 > n1 then 0 else n1) then 1000 else (if 0 > n1 then 0 else n1)) - 1))).bind fun r54 =>
                                  if (r54 == r23) = true then
                                    (slab_Slab_Read ((r19_3, r19_4, r19, r19_2), (if 1000 < (if 0 > n1 then 0 else n1) then 1000 else (if 0 > n1 then 0 else n1)))).bind fun r62 =>
                                      if (r62 == []) = true then
                                        (slab_Slab_Loose ((r19, r19_2), r19_3, r19_4)).bind fun ((_, _, _), r67) =>
                                          some ((((r67.length : Int) == 0)))
                                      else
                                        some false
                                  else
                                    some false
                              else
                                (slab_Slab_Read ((r19_3, r19_4, r19, r19_2), (if 1000 < (if 0 > n1 then 0 else n1) then 1000 else (if 0 > n1 then 0 else n1)))).bind fun r62a =>
                                  if (r62a == []) = true then
                                    (slab_Slab_Loose ((r19, r19_2), r19_3, r19_4)).bind fun ((_, _, _), r67a) =>
                                      some ((((r67a.length : Int) == 0)))
                                  else
                                    some false
                            else
                              some false
                        else
                          some false
                    else
                      some false

def wainwrightlaw02_SlabLoads.ins : Spec := ⟨71, 0, [], [0, 1], (.cons (.v (.sl .str)) (.cons (.v I) .nil))⟩
def wainwrightlaw02_SlabLoads.outs : List Spec := [⟨71, 0, [], [4], (.cons (.v .bool) .nil)⟩]
noncomputable def wainwrightlaw02_SlabLoads.c : Callee' := ⟨3, mkFits wainwrightlaw02_SlabLoads.ins wainwrightlaw02_SlabLoads.outs, mkFun wainwrightlaw02_SlabLoads.ins wainwrightlaw02_SlabLoads.outs wainwrightlaw02_SlabLoads⟩
theorem wainwrightlaw02_SlabLoads.quiet : FunQuiet wainwrightlaw02_SlabLoads.c.F := mkFun_quiet rfl rfl
noncomputable def wainwrightlaw02_SlabLoads.ann : Ann :=
  (.seq (.reg []) (.seq (.seq (.reg [.callq [wainwrightlaw02_lives.c]]) (.cond (.seq (.reg []) .std) .std)) (.seq (.reg [.std, .call [slab_Load.c], .std, .call [wainwrightref02_Load.c]]) (.seq (.reg [.std, .call [slab_Slab_Crash.c]]) (.seq (.reg [.std, .call [slab_New.c]]) (.seq (.reg []) (.seq (.reg [.callq [wainwrightref02_Whole.c]]) (.seq (.drw [.std, .callq [slab_Image.c], .std, .std, .std, .std, .callq [wainwrightlaw02_texts.c], .std, .std, .callq [slab_Slab_Size.c], .std, .std, .std, .std, .std, .std, .std, .std, .std, .callq [slab_Slab_Size.c], .std, .std, .std, .std, .std, .std, .std, .std, .std, .std, .callq [slab_Slab_Read.c], .std, .std, .std, .std, .std, .std, .std, .callq [slab_Slab_Read.c], .std, .std, .std, .std, .callq [slab_Slab_Loose.c]]) .std))))))))
noncomputable def wainwrightlaw02_SlabLoads.code : Code := match Try.f3.body with | some c => c | none => .skip
theorem wainwrightlaw02_SlabLoads.eq : absFn tt 71 wainwrightlaw02_SlabLoads.ins wainwrightlaw02_SlabLoads.outs wainwrightlaw02_SlabLoads.code wainwrightlaw02_SlabLoads.ann = wainwrightlaw02_SlabLoads := by
  funext a
  kernel_rfl
theorem wainwrightlaw02_SlabLoads.ok : wainwrightlaw02_SlabLoads.ann.ok Try.prog 0 71 :=
  ann_ok (by kernel_rfl) (by kernel_rfl) (show ∀ c ∈ ([wainwrightlaw02_lives.c, slab_Load.c, wainwrightref02_Load.c, slab_Slab_Crash.c, slab_New.c, wainwrightref02_Whole.c, slab_Image.c, wainwrightlaw02_texts.c, slab_Slab_Size.c, slab_Slab_Size.c, slab_Slab_Read.c, slab_Slab_Read.c, slab_Slab_Loose.c] : List Callee'), c.ok Try.prog from cs_cons wainwrightlaw02_lives.sound (cs_cons slab_Load.sound (cs_cons wainwrightref02_Load.sound (cs_cons slab_Slab_Crash.sound (cs_cons slab_New.sound (cs_cons wainwrightref02_Whole.sound (cs_cons slab_Image.sound (cs_cons wainwrightlaw02_texts.sound (cs_cons slab_Slab_Size.sound (cs_cons slab_Slab_Size.sound (cs_cons slab_Slab_Read.sound (cs_cons slab_Slab_Read.sound (cs_cons slab_Slab_Loose.sound cs_nil)))))))))))))
    (show ∀ c ∈ ([wainwrightlaw02_lives.c, wainwrightref02_Whole.c, slab_Image.c, wainwrightlaw02_texts.c, slab_Slab_Size.c, slab_Slab_Size.c, slab_Slab_Read.c, slab_Slab_Read.c, slab_Slab_Loose.c] : List Callee'), FunQuiet c.F from cs_cons wainwrightlaw02_lives.quiet (cs_cons wainwrightref02_Whole.quiet (cs_cons slab_Image.quiet (cs_cons wainwrightlaw02_texts.quiet (cs_cons slab_Slab_Size.quiet (cs_cons slab_Slab_Size.quiet (cs_cons slab_Slab_Read.quiet (cs_cons slab_Slab_Read.quiet (cs_cons slab_Slab_Loose.quiet cs_nil)))))))))
theorem wainwrightlaw02_SlabLoads.sound : wainwrightlaw02_SlabLoads.c.ok Try.prog := by
  refine ⟨?_, Try.f3, wainwrightlaw02_SlabLoads.code, Try.func3, rfl, by decide⟩
  have h := fn_sound tt_ok mix_ok (x := wainwrightlaw02_SlabLoads.ann) (ins := wainwrightlaw02_SlabLoads.ins) (outs := wainwrightlaw02_SlabLoads.outs) (N := 71) Try.func3 (c := wainwrightlaw02_SlabLoads.code) rfl rfl (by kernel_rfl) (by kernel_rfl) wainwrightlaw02_SlabLoads.ok (by decide)
  rw [wainwrightlaw02_SlabLoads.eq] at h
  exact h

/-! ### wainwright/wainwrightlaw02.early: function 18 -/
noncomputable def wainwrightlaw02_early : (List (Int × Int × List UInt8 × List Bool)) → Option (List (Int × Int × List UInt8 × List Bool)) := fun l0 =>
  if 0 ≤ (if 200 < (l0.length : Int) then 200 else (l0.length : Int)) ∧ (if 200 < (l0.length : Int) then 200 else (l0.length : Int)) ≤ (l0.length : Int) then
    some ((l0.take ((if 200 < (l0.length : Int) then 200 else (l0.length : Int))).toNat))
  else none

def wainwrightlaw02_early.ins : Spec := ⟨8, 0, [], [0], (.cons (.v (.sl (.st (.pair I (.pair I (.pair .str (.sl .bool))))))) .nil)⟩
def wainwrightlaw02_early.outs : List Spec := [⟨8, 0, [], [2], (.cons (.v (.sl (.st (.pair I (.pair I (.pair .str (.sl .bool))))))) .nil)⟩]
noncomputable def wainwrightlaw02_early.c : Callee' := ⟨18, mkFits wainwrightlaw02_early.ins wainwrightlaw02_early.outs, mkFun wainwrightlaw02_early.ins wainwrightlaw02_early.outs wainwrightlaw02_early⟩
theorem wainwrightlaw02_early.quiet : FunQuiet wainwrightlaw02_early.c.F := mkFun_quiet rfl rfl
noncomputable def wainwrightlaw02_early.ann : Ann :=
  (.seq (.reg []) (.seq (.reg []) .std))
noncomputable def wainwrightlaw02_early.code : Code := match Try.f18.body with | some c => c | none => .skip
theorem wainwrightlaw02_early.eq : absFn tt 8 wainwrightlaw02_early.ins wainwrightlaw02_early.outs wainwrightlaw02_early.code wainwrightlaw02_early.ann = wainwrightlaw02_early := by
  funext a
  kernel_rfl
theorem wainwrightlaw02_early.ok : wainwrightlaw02_early.ann.ok Try.prog 0 8 :=
  ann_ok (by kernel_rfl) (by kernel_rfl) (show ∀ c ∈ ([] : List Callee'), c.ok Try.prog from cs_nil)
    (show ∀ c ∈ ([] : List Callee'), FunQuiet c.F from cs_nil)
theorem wainwrightlaw02_early.sound : wainwrightlaw02_early.c.ok Try.prog := by
  refine ⟨?_, Try.f18, wainwrightlaw02_early.code, Try.func18, rfl, by decide⟩
  have h := fn_sound tt_ok mix_ok (x := wainwrightlaw02_early.ann) (ins := wainwrightlaw02_early.ins) (outs := wainwrightlaw02_early.outs) (N := 8) Try.func18 (c := wainwrightlaw02_early.code) rfl rfl (by kernel_rfl) (by kernel_rfl) wainwrightlaw02_early.ok (by decide)
  rw [wainwrightlaw02_early.eq] at h
  exact h

/-! ### (*wainwright/slab.Slab).Stop: function 19 -/
noncomputable def slab_Slab_Stop_1 : (((Int × Int) × List (List UInt8) × List (Int × List UInt8)) × Int) → Option ((Int × Int) × List (List UInt8) × List (Int × List UInt8)) := fun (((s0c, s0d), o1, o2), n1) =>
  ((
    if decide (n1 < 0) = false then
      some (((((s0c, s0d), o1, o2), n1, decide (n1 > 1099511627776))))
    else
      some (((((s0c, s0d), o1, o2), n1, true)))) : Option (((Int × Int) × List (List UInt8) × List (Int × List UInt8)) × Int × Bool)).bind fun (((s0c, s0d), o1, o2), n1, t11) =>
    if t11 = true then
      some ((((s0c, (-1)), o1, o2)))
    else
      some ((((s0c, n1), o1, o2)))

def slab_Slab_Stop_1.ins : Spec := ⟨21, 0, [.box (.cons (.ref 1) (.cons (.ref 2) (.cons (.v I) (.cons (.v I) .nil)))), .arr .str, .map I .str], [0, 1], (.cons (.ref 0) (.cons (.v I) .nil))⟩
def slab_Slab_Stop_1.outs : List Spec := [⟨21, 3, [.box (.cons (.ref 1) (.cons (.ref 2) (.cons (.v I) (.cons (.v I) .nil)))), .arr .str, .map I .str], [], .nil⟩]
noncomputable def slab_Slab_Stop_1.c : Callee' := ⟨19, mkFits slab_Slab_Stop_1.ins slab_Slab_Stop_1.outs, mkFun slab_Slab_Stop_1.ins slab_Slab_Stop_1.outs slab_Slab_Stop_1⟩
noncomputable def slab_Slab_Stop_1.ann : Ann :=
  (.block (.seq (.reg [.std, .obj .bool]) (.cond .std (.join [(.norm, ⟨21, 3, [.box (.cons (.ref 1) (.cons (.ref 2) (.cons (.v I) (.cons (.v I) .nil)))), .arr .str, .map I .str], [0, 1, 11], (.cons (.ref 0) (.cons (.v I) (.cons (.v .bool) .nil)))⟩)]
  (.reg []) (.cond (.reg []) (.reg []))))))
noncomputable def slab_Slab_Stop_1.code : Code := match Try.f19.body with | some c => c | none => .skip
theorem slab_Slab_Stop_1.eq : absFn tt 21 slab_Slab_Stop_1.ins slab_Slab_Stop_1.outs slab_Slab_Stop_1.code slab_Slab_Stop_1.ann = slab_Slab_Stop_1 := by
  funext a
  kernel_rfl
theorem slab_Slab_Stop_1.ok : slab_Slab_Stop_1.ann.ok Try.prog 3 21 :=
  ann_ok (by kernel_rfl) (by kernel_rfl) (show ∀ c ∈ ([] : List Callee'), c.ok Try.prog from cs_nil)
    (show ∀ c ∈ ([] : List Callee'), FunQuiet c.F from cs_nil)
theorem slab_Slab_Stop_1.sound : slab_Slab_Stop_1.c.ok Try.prog := by
  refine ⟨?_, Try.f19, slab_Slab_Stop_1.code, Try.func19, rfl, by decide⟩
  have h := fn_sound tt_ok mix_ok (x := slab_Slab_Stop_1.ann) (ins := slab_Slab_Stop_1.ins) (outs := slab_Slab_Stop_1.outs) (N := 21) Try.func19 (c := slab_Slab_Stop_1.code) rfl rfl (by kernel_rfl) (by kernel_rfl) slab_Slab_Stop_1.ok (by decide)
  rw [slab_Slab_Stop_1.eq] at h
  exact h

/-! ### wainwright/wainwrightlaw02.does: function 22 -/
noncomputable def wainwrightlaw02_does_1 : (((Int × Int) × List (List UInt8) × List (Int × List UInt8)) × Int × Int × List UInt8 × List Bool) → Option (((Int × Int) × List (List UInt8) × List (Int × List UInt8)) × Int) := fun (((s0c, s0d), o1, o2), ov1) =>
  (wainwrightlaw02_Op_kind (ov1.1, ov1.2.1, ov1.2.2.1, ov1.2.2.2)).bind fun r6 =>
    if (r6 == 0) = true then
      (slab_Slab_Write (((s0c, s0d), o1, o2), ov1.2.1, ov1.2.2.1)).bind fun (((r14, r14_2), r14_3, r14_4), r14_5) =>
        some (((((r14, r14_2), r14_3, r14_4), r14_5)))
    else
      if (r6 == 1) = true then
        (slab_Slab_Flush ((s0c, s0d), o1, o2)).bind fun (((r18, r18_2), r18_3, r18_4), r18_5) =>
          some (((((r18, r18_2), r18_3, r18_4), r18_5)))
      else
        if (r6 == 2) = true then
          (slab_Slab_Stop_1 (((s0c, s0d), o1, o2), ov1.2.1)).bind fun ((r24, r24_2), r24_3, r24_4) =>
            some (((((r24, r24_2), r24_3, r24_4), 0)))
        else
          if (r6 == 3) = true then
            (slab_Slab_Crash (((s0c, s0d), o1, o2), ov1.2.2.2)).bind fun ((r30, r30_2), r30_3, r30_4) =>
              some (((((r30, r30_2), r30_3, r30_4), 0)))
          else
            some (((((s0c, s0d), o1, o2), 0)))

def wainwrightlaw02_does_1.ins : Spec := ⟨31, 0, [.box (.cons (.ref 1) (.cons (.ref 2) (.cons (.v I) (.cons (.v I) .nil)))), .arr .str, .map I .str], [0, 1], (.cons (.ref 0) (.cons (.v (.st (.pair I (.pair I (.pair .str (.sl .bool)))))) .nil))⟩
def wainwrightlaw02_does_1.outs : List Spec := [⟨31, 3, [.box (.cons (.ref 1) (.cons (.ref 2) (.cons (.v I) (.cons (.v I) .nil)))), .arr .str, .map I .str], [4], (.cons (.v I) .nil)⟩]
noncomputable def wainwrightlaw02_does_1.c : Callee' := ⟨22, mkFits wainwrightlaw02_does_1.ins wainwrightlaw02_does_1.outs, mkFun wainwrightlaw02_does_1.ins wainwrightlaw02_does_1.outs wainwrightlaw02_does_1⟩
noncomputable def wainwrightlaw02_does_1.ann : Ann :=
  (.seq (.reg []) (.seq (.seq (.reg [.std, .callq [wainwrightlaw02_Op_kind.c]]) (.block (.seq (.reg []) (.cond (.seq (.reg [.std, .std, .std, .std, .std, .call [slab_Slab_Write.c]]) .std) (.seq (.reg []) (.cond (.seq (.reg [.std, .call [slab_Slab_Flush.c]]) .std) (.seq (.reg []) (.cond (.reg [.std, .std, .std, .call [slab_Slab_Stop_1.c]]) (.seq (.reg []) (.cond (.reg [.std, .std, .std, .call [slab_Slab_Crash.c]]) .std)))))))))) (.seq (.reg []) .std)))
noncomputable def wainwrightlaw02_does_1.code : Code := match Try.f22.body with | some c => c | none => .skip
theorem wainwrightlaw02_does_1.eq : absFn tt 31 wainwrightlaw02_does_1.ins wainwrightlaw02_does_1.outs wainwrightlaw02_does_1.code wainwrightlaw02_does_1.ann = wainwrightlaw02_does_1 := by
  funext a
  kernel_rfl
theorem wainwrightlaw02_does_1.ok : wainwrightlaw02_does_1.ann.ok Try.prog 3 31 :=
  ann_ok (by kernel_rfl) (by kernel_rfl) (show ∀ c ∈ ([wainwrightlaw02_Op_kind.c, slab_Slab_Write.c, slab_Slab_Flush.c, slab_Slab_Stop_1.c, slab_Slab_Crash.c] : List Callee'), c.ok Try.prog from cs_cons wainwrightlaw02_Op_kind.sound (cs_cons slab_Slab_Write.sound (cs_cons slab_Slab_Flush.sound (cs_cons slab_Slab_Stop_1.sound (cs_cons slab_Slab_Crash.sound cs_nil)))))
    (show ∀ c ∈ ([wainwrightlaw02_Op_kind.c] : List Callee'), FunQuiet c.F from cs_cons wainwrightlaw02_Op_kind.quiet cs_nil)
theorem wainwrightlaw02_does_1.sound : wainwrightlaw02_does_1.c.ok Try.prog := by
  refine ⟨?_, Try.f22, wainwrightlaw02_does_1.code, Try.func22, rfl, by decide⟩
  have h := fn_sound tt_ok mix_ok (x := wainwrightlaw02_does_1.ann) (ins := wainwrightlaw02_does_1.ins) (outs := wainwrightlaw02_does_1.outs) (N := 31) Try.func22 (c := wainwrightlaw02_does_1.code) rfl rfl (by kernel_rfl) (by kernel_rfl) wainwrightlaw02_does_1.ok (by decide)
  rw [wainwrightlaw02_does_1.eq] at h
  exact h

/-! ### wainwright/wainwrightlaw02.SlabStops: function 4 -/
noncomputable def wainwrightlaw02_SlabStops.l1 : (((Int × Int) × List (List UInt8) × List (Int × List UInt8)) × (List (Int × Int × List UInt8 × List Bool)) × Int × Int) → Option ((((Int × Int) × List (List UInt8) × List (Int × List UInt8)) × (List (Int × Int × List UInt8 × List Bool)) × Int × Int) ⊕ (((Int × Int) × List (List UInt8) × List (Int × List UInt8)) ⊕ Bool)) := fun (((s5c, s5d), o1, o2), script0, n1, i6) =>
  if decide (i6 < (script0.length : Int)) = true then
    if 0 ≤ i6 ∧ i6 < (script0.length : Int) then
      (wainwrightlaw02_Op_kind ((script0.getD i6.toNat (0, (0, ([], [])))).1, ((script0.getD i6.toNat (0, (0, ([], [])))).2).1, (((script0.getD i6.toNat (0, (0, ([], [])))).2).2).1, (((script0.getD i6.toNat (0, (0, ([], [])))).2).2).2)).bind fun r32 =>
        if decide (r32 > 1) = true then
          some (.inl ((((s5c, s5d), o1, o2), script0, n1, IntKind.i64.wrap (i6 + 1))))
        else
          (slab_Image ((s5c, s5d), o1, o2)).bind fun ((_, _, _), r35) =>
            (slab_Slab_Calls (o1, o2, s5c, s5d)).bind fun r37 =>
              if 0 ≤ i6 ∧ i6 < (script0.length : Int) then
                (wainwrightlaw02_does_1 (((s5c, s5d), o1, o2), (script0.getD i6.toNat (0, (0, ([], [])))).1, ((script0.getD i6.toNat (0, (0, ([], [])))).2).1, (((script0.getD i6.toNat (0, (0, ([], [])))).2).2).1, (((script0.getD i6.toNat (0, (0, ([], [])))).2).2).2)).bind fun (((r43, r43_2), r43_3, r43_4), r43_5) =>
                  if (!((r43_5 == 14) == decide (r37 ≥ n1))) = false then
                    (slab_Slab_Calls (r43_3, r43_4, r43, r43_2)).bind fun r52 =>
                      if (r52 != IntKind.i64.wrap (r37 + 1)) = false then
                        if decide (r37 ≥ n1) = true then
                          (slab_Image ((r43, r43_2), r43_3, r43_4)).bind fun ((_, _, _), r64) =>
                            (wainwrightlaw02_texts (r35, r64)).bind fun r65 =>
                              if (!r65) = true then
                                some (.inr (.inr false))
                              else
                                some (.inl ((((r43, r43_2), r43_3, r43_4), script0, n1, IntKind.i64.wrap (i6 + 1))))
                        else
                          some (.inl ((((r43, r43_2), r43_3, r43_4), script0, n1, IntKind.i64.wrap (i6 + 1))))
                      else
                        some (.inr (.inr false))
                  else
                    some (.inr (.inr false))
              else none
    else none
  else
    some (.inr (.inl (((s5c, s5d), o1, o2))))

noncomputable def wainwrightlaw02_SlabStops : ((List (Int × Int × List UInt8 × List Bool)) × Int) → Option (Bool) := fun (script0, n1) =>
  (wainwrightlaw02_lives ()).bind fun r10 =>
    if (!r10) = true then
      some false
    else
      (wainwrightlaw02_early script0).bind fun r13 =>
        (slab_New 9).bind fun ((r14, r14_2), r14_3, r14_4) =>
          (slab_Slab_Stop_1 (((r14, r14_2), r14_3, r14_4), IntKind.i64.wrap (Int.tmod (IntKind.u64.wrap (n1)) 60))).bind fun ((r21, r21_2), r21_3, r21_4) =>
            (loopO wainwrightlaw02_SlabStops.l1 ((((r21, r21_2), r21_3, r21_4), r13, IntKind.i64.wrap (Int.tmod (IntKind.u64.wrap (n1)) 60), 0))).bind fun d => match d with
            | .inl ((s5c, s5d), o1, o2) =>
              (slab_Slab_Crash (((s5c, s5d), o1, o2), ([] : List Bool))).bind fun ((r70, r70_2), r70_3, r70_4) =>
                (slab_Slab_Write (((r70, r70_2), r70_3, r70_4), 0, ([120] : List UInt8))).bind fun (((r72, r72_2), r72_3, r72_4), r72_5) =>
                  if (r72_5 == 0) = true then
                    (slab_Slab_Flush ((r72, r72_2), r72_3, r72_4)).bind fun (((r76, r76_2), r76_3, r76_4), r76_5) =>
                      if (r76_5 == 0) = true then
                        (slab_Slab_Read ((r76_3, r76_4, r76, r76_2), 0)).bind fun r81 =>
                          (wainwrightref02_Whole ([120] : List UInt8)).bind fun r82 =>
                            some (((r81 == r82)))
                      else
                        some false
                  else
                    some false
            | .inr t4 =>
              some t4

def wainwrightlaw02_SlabStops.ins : Spec := ⟨85, 0, [], [0, 1], (.cons (.v (.sl (.st (.pair I (.pair I (.pair .str (.sl .bool))))))) (.cons (.v I) .nil))⟩
def wainwrightlaw02_SlabStops.outs : List Spec := [⟨85, 0, [], [4], (.cons (.v .bool) .nil)⟩]
noncomputable def wainwrightlaw02_SlabStops.c : Callee' := ⟨4, mkFits wainwrightlaw02_SlabStops.ins wainwrightlaw02_SlabStops.outs, mkFun wainwrightlaw02_SlabStops.ins wainwrightlaw02_SlabStops.outs wainwrightlaw02_SlabStops⟩
theorem wainwrightlaw02_SlabStops.quiet : FunQuiet wainwrightlaw02_SlabStops.c.F := mkFun_quiet rfl rfl
noncomputable def wainwrightlaw02_SlabStops.ann : Ann :=
  (.seq (.reg []) (.seq (.seq (.reg [.callq [wainwrightlaw02_lives.c]]) (.cond (.seq (.reg []) .std) .std)) (.seq (.reg [.std, .callq [wainwrightlaw02_early.c]]) (.seq (.reg [.call [slab_New.c]]) (.seq (.reg []) (.seq (.reg [.std, .std, .call [slab_Slab_Stop_1.c]]) (.seq (.seq (.reg []) (.block (.loop ⟨85, 0, [.box (.cons (.ref 1) (.cons (.ref 2) (.cons (.v I) (.cons (.v I) .nil)))), .arr .str, .map I .str], [0, 1, 5, 6], (.cons (.v (.sl (.st (.pair I (.pair I (.pair .str (.sl .bool))))))) (.cons (.v I) (.cons (.ref 0) (.cons (.v I) .nil))))⟩ [(.exit 0, ⟨85, 0, [.box (.cons (.ref 1) (.cons (.ref 2) (.cons (.v I) (.cons (.v I) .nil)))), .arr .str, .map I .str], [5], (.cons (.ref 0) .nil)⟩), (.ret, ⟨85, 0, [], [4], (.cons (.v .bool) .nil)⟩)]
  (.seq (.seq (.reg []) (.cond .std .std)) (.seq (.block (.seq (.seq (.reg [.std, .std, .std, .std, .callq [wainwrightlaw02_Op_kind.c]]) (.cond .std .std)) (.seq (.reg [.std, .callq [slab_Image.c], .std, .callq [slab_Slab_Calls.c]]) (.seq (.reg [.std, .std, .std, .std, .std, .call [wainwrightlaw02_does_1.c]]) (.seq (.reg [.std, .std, .std, .std, .std, .std, .std, .std, .callq [slab_Slab_Calls.c], .std, .std, .std, .std, .std, .std, .std, .std, .std, .std, .std, .callq [slab_Image.c], .callq [wainwrightlaw02_texts.c]]) (.cond (.seq (.reg []) .std) .std)))))) (.reg [])))))) (.seq (.reg [.std, .call [slab_Slab_Crash.c]]) (.seq (.reg [.std, .call [slab_Slab_Write.c], .std, .std, .std, .call [slab_Slab_Flush.c], .std, .std, .std, .std, .callq [slab_Slab_Read.c], .callq [wainwrightref02_Whole.c]]) .std)))))))))
noncomputable def wainwrightlaw02_SlabStops.code : Code := match Try.f4.body with | some c => c | none => .skip
theorem wainwrightlaw02_SlabStops.eq : absFn tt 85 wainwrightlaw02_SlabStops.ins wainwrightlaw02_SlabStops.outs wainwrightlaw02_SlabStops.code wainwrightlaw02_SlabStops.ann = wainwrightlaw02_SlabStops := by
  funext a
  kernel_rfl
theorem wainwrightlaw02_SlabStops.ok : wainwrightlaw02_SlabStops.ann.ok Try.prog 0 85 :=
  ann_ok (by kernel_rfl) (by kernel_rfl) (show ∀ c ∈ ([wainwrightlaw02_lives.c, wainwrightlaw02_early.c, slab_New.c, slab_Slab_Stop_1.c, wainwrightlaw02_Op_kind.c, slab_Image.c, slab_Slab_Calls.c, wainwrightlaw02_does_1.c, slab_Slab_Calls.c, slab_Image.c, wainwrightlaw02_texts.c, slab_Slab_Crash.c, slab_Slab_Write.c, slab_Slab_Flush.c, slab_Slab_Read.c, wainwrightref02_Whole.c] : List Callee'), c.ok Try.prog from cs_cons wainwrightlaw02_lives.sound (cs_cons wainwrightlaw02_early.sound (cs_cons slab_New.sound (cs_cons slab_Slab_Stop_1.sound (cs_cons wainwrightlaw02_Op_kind.sound (cs_cons slab_Image.sound (cs_cons slab_Slab_Calls.sound (cs_cons wainwrightlaw02_does_1.sound (cs_cons slab_Slab_Calls.sound (cs_cons slab_Image.sound (cs_cons wainwrightlaw02_texts.sound (cs_cons slab_Slab_Crash.sound (cs_cons slab_Slab_Write.sound (cs_cons slab_Slab_Flush.sound (cs_cons slab_Slab_Read.sound (cs_cons wainwrightref02_Whole.sound cs_nil))))))))))))))))
    (show ∀ c ∈ ([wainwrightlaw02_lives.c, wainwrightlaw02_early.c, wainwrightlaw02_Op_kind.c, slab_Image.c, slab_Slab_Calls.c, slab_Slab_Calls.c, slab_Image.c, wainwrightlaw02_texts.c, slab_Slab_Read.c, wainwrightref02_Whole.c] : List Callee'), FunQuiet c.F from cs_cons wainwrightlaw02_lives.quiet (cs_cons wainwrightlaw02_early.quiet (cs_cons wainwrightlaw02_Op_kind.quiet (cs_cons slab_Image.quiet (cs_cons slab_Slab_Calls.quiet (cs_cons slab_Slab_Calls.quiet (cs_cons slab_Image.quiet (cs_cons wainwrightlaw02_texts.quiet (cs_cons slab_Slab_Read.quiet (cs_cons wainwrightref02_Whole.quiet cs_nil))))))))))
theorem wainwrightlaw02_SlabStops.sound : wainwrightlaw02_SlabStops.c.ok Try.prog := by
  refine ⟨?_, Try.f4, wainwrightlaw02_SlabStops.code, Try.func4, rfl, by decide⟩
  have h := fn_sound tt_ok mix_ok (x := wainwrightlaw02_SlabStops.ann) (ins := wainwrightlaw02_SlabStops.ins) (outs := wainwrightlaw02_SlabStops.outs) (N := 85) Try.func4 (c := wainwrightlaw02_SlabStops.code) rfl rfl (by kernel_rfl) (by kernel_rfl) wainwrightlaw02_SlabStops.ok (by decide)
  rw [wainwrightlaw02_SlabStops.eq] at h
  exact h

/-! ### wainwright/wainwrightlaw02.SlabKeeps: function 6 -/
noncomputable def wainwrightlaw02_SlabKeeps.l1 : (((Int × Int) × (Int × Int) × (Int × Int) × List (List UInt8) × (List (Int × List UInt8)) × List (List UInt8) × (List (Int × List UInt8)) × List (List UInt8) × List (Int × List UInt8)) × (List (Int × Int × List UInt8 × List Bool)) × (List (Int × Int × List UInt8 × List Bool)) × Int) → Option ((((Int × Int) × (Int × Int) × (Int × Int) × List (List UInt8) × (List (Int × List UInt8)) × List (List UInt8) × (List (Int × List UInt8)) × List (List UInt8) × List (Int × List UInt8)) × (List (Int × Int × List UInt8 × List Bool)) × (List (Int × Int × List UInt8 × List Bool)) × Int) ⊕ (((Int × Int) × (Int × Int) × (Int × Int) × List (List UInt8) × (List (Int × List UInt8)) × List (List UInt8) × (List (Int × List UInt8)) × List (List UInt8) × List (Int × List UInt8)) × List (Int × Int × List UInt8 × List Bool))) := fun (((x5c, x5d), (y6c, y6d), (z7c, z7d), o3, o4, o5, o6, o7, o8), a0, b1, i8) =>
  if decide (i8 < (a0.length : Int)) = true then
    if 0 ≤ i8 ∧ i8 < (a0.length : Int) then
      (wainwrightlaw02_Op_kind ((a0.getD i8.toNat (0, (0, ([], [])))).1, ((a0.getD i8.toNat (0, (0, ([], [])))).2).1, (((a0.getD i8.toNat (0, (0, ([], [])))).2).2).1, (((a0.getD i8.toNat (0, (0, ([], [])))).2).2).2)).bind fun r30 =>
        if decide (r30 < 2) = true then
          if 0 ≤ i8 ∧ i8 < (a0.length : Int) then
            (wainwrightlaw02_does_1 (((x5c, x5d), o3, o4), (a0.getD i8.toNat (0, (0, ([], [])))).1, ((a0.getD i8.toNat (0, (0, ([], [])))).2).1, (((a0.getD i8.toNat (0, (0, ([], [])))).2).2).1, (((a0.getD i8.toNat (0, (0, ([], [])))).2).2).2)).bind fun (((r37, r37_2), r37_3, r37_4), r37_5) =>
              if 0 ≤ i8 ∧ i8 < (a0.length : Int) then
                (wainwrightlaw02_does_1 (((y6c, y6d), o5, o6), (a0.getD i8.toNat (0, (0, ([], [])))).1, ((a0.getD i8.toNat (0, (0, ([], [])))).2).1, (((a0.getD i8.toNat (0, (0, ([], [])))).2).2).1, (((a0.getD i8.toNat (0, (0, ([], [])))).2).2).2)).bind fun (((r43, r43_2), r43_3, r43_4), r43_5) =>
                  if 0 ≤ i8 ∧ i8 < (a0.length : Int) then
                    (wainwrightlaw02_does_1 (((z7c, z7d), o7, o8), (a0.getD i8.toNat (0, (0, ([], [])))).1, ((a0.getD i8.toNat (0, (0, ([], [])))).2).1, (((a0.getD i8.toNat (0, (0, ([], [])))).2).2).1, (((a0.getD i8.toNat (0, (0, ([], [])))).2).2).2)).bind fun (((r49, r49_2), r49_3, r49_4), r49_5) =>
                      some (.inl ((((r37, r37_2), (r43, r43_2), (r49, r49_2), r37_3, r37_4, r43_3, r43_4, r49_3, r49_4), a0, b1, IntKind.i64.wrap (i8 + 1))))
                  else none
              else none
          else none
        else
          some (.inl ((((x5c, x5d), (y6c, y6d), (z7c, z7d), o3, o4, o5, o6, o7, o8), a0, b1, IntKind.i64.wrap (i8 + 1))))
    else none
  else
    some (.inr (((((x5c, x5d), (y6c, y6d), (z7c, z7d), o3, o4, o5, o6, o7, o8), b1))))

noncomputable def wainwrightlaw02_SlabKeeps.l2 : (((Int × Int) × (Int × Int) × (Int × Int) × List (List UInt8) × (List (Int × List UInt8)) × List (List UInt8) × (List (Int × List UInt8)) × List (List UInt8) × List (Int × List UInt8)) × (List (Int × Int × List UInt8 × List Bool)) × List (List UInt8) × Int) → Option ((((Int × Int) × (Int × Int) × (Int × Int) × List (List UInt8) × (List (Int × List UInt8)) × List (List UInt8) × (List (Int × List UInt8)) × List (List UInt8) × List (Int × List UInt8)) × (List (Int × Int × List UInt8 × List Bool)) × List (List UInt8) × Int) ⊕ (((Int × Int) × (Int × Int) × (Int × Int) × List (List UInt8) × (List (Int × List UInt8)) × List (List UInt8) × (List (Int × List UInt8)) × List (List UInt8) × List (Int × List UInt8)) × List (List UInt8))) := fun (((x5c, x5d), (y6c, y6d), (z7c, z7d), o3, o4, o5, o6, o7, o8), b1, was9, i10) =>
  if decide (i10 < (b1.length : Int)) = true then
    if 0 ≤ i10 ∧ i10 < (b1.length : Int) then
      (wainwrightlaw02_Op_kind ((b1.getD i10.toNat (0, (0, ([], [])))).1, ((b1.getD i10.toNat (0, (0, ([], [])))).2).1, (((b1.getD i10.toNat (0, (0, ([], [])))).2).2).1, (((b1.getD i10.toNat (0, (0, ([], [])))).2).2).2)).bind fun r75 =>
        if (r75 == 0) = true then
          if 0 ≤ i10 ∧ i10 < (b1.length : Int) then
            (wainwrightlaw02_does_1 (((x5c, x5d), o3, o4), (b1.getD i10.toNat (0, (0, ([], [])))).1, ((b1.getD i10.toNat (0, (0, ([], [])))).2).1, (((b1.getD i10.toNat (0, (0, ([], [])))).2).2).1, (((b1.getD i10.toNat (0, (0, ([], [])))).2).2).2)).bind fun (((r82, r82_2), r82_3, r82_4), r82_5) =>
              if 0 ≤ i10 ∧ i10 < (b1.length : Int) then
                (wainwrightlaw02_does_1 (((y6c, y6d), o5, o6), (b1.getD i10.toNat (0, (0, ([], [])))).1, ((b1.getD i10.toNat (0, (0, ([], [])))).2).1, (((b1.getD i10.toNat (0, (0, ([], [])))).2).2).1, (((b1.getD i10.toNat (0, (0, ([], [])))).2).2).2)).bind fun (((r88, r88_2), r88_3, r88_4), r88_5) =>
                  if 0 ≤ i10 ∧ i10 < (b1.length : Int) then
                    (wainwrightlaw02_does_1 (((z7c, z7d), o7, o8), (b1.getD i10.toNat (0, (0, ([], [])))).1, ((b1.getD i10.toNat (0, (0, ([], [])))).2).1, (((b1.getD i10.toNat (0, (0, ([], [])))).2).2).1, (((b1.getD i10.toNat (0, (0, ([], [])))).2).2).2)).bind fun (((r94, r94_2), r94_3, r94_4), r94_5) =>
                      some (.inl ((((r82, r82_2), (r88, r88_2), (r94, r94_2), r82_3, r82_4, r88_3, r88_4, r94_3, r94_4), b1, was9, IntKind.i64.wrap (i10 + 1))))
                  else none
              else none
          else none
        else
          some (.inl ((((x5c, x5d), (y6c, y6d), (z7c, z7d), o3, o4, o5, o6, o7, o8), b1, was9, IntKind.i64.wrap (i10 + 1))))
    else none
  else
    some (.inr (((((x5c, x5d), (y6c, y6d), (z7c, z7d), o3, o4, o5, o6, o7, o8), was9))))

noncomputable def wainwrightlaw02_SlabKeeps : ((List (Int × Int × List UInt8 × List Bool)) × List (Int × Int × List UInt8 × List Bool)) → Option (Bool) := fun (a0, b1) =>
  (wainwrightlaw02_lives ()).bind fun r11 =>
    if (!r11) = true then
      some false
    else
      (wainwrightlaw02_early a0).bind fun r14 =>
        (wainwrightlaw02_early b1).bind fun r16 =>
          (slab_New 9).bind fun ((r17, r17_2), r17_3, r17_4) =>
            (slab_New 9).bind fun ((r18, r18_2), r18_3, r18_4) =>
              (slab_New 9).bind fun ((r19, r19_2), r19_3, r19_4) =>
                (loopO wainwrightlaw02_SlabKeeps.l1 ((((r17, r17_2), (r18, r18_2), (r19, r19_2), r17_3, r17_4, r18_3, r18_4, r19_3, r19_4), r14, r16, 0))).bind fun (((x5c, x5d), (y6c, y6d), (z7c, z7d), o3, o4, o5, o6, o7, o8), b1) =>
                  (slab_Slab_Flush ((x5c, x5d), o3, o4)).bind fun (((r51, r51_2), r51_3, r51_4), r51_5) =>
                    if (r51_5 != 0) = false then
                      (slab_Slab_Flush ((y6c, y6d), o5, o6)).bind fun (((r55, r55_2), r55_3, r55_4), r55_5) =>
                        if (r55_5 != 0) = false then
                          (slab_Slab_Flush ((z7c, z7d), o7, o8)).bind fun (((r60, r60_2), r60_3, r60_4), r60_5) =>
                            if (r60_5 != 0) = true then
                              some false
                            else
                              (slab_Image ((r60, r60_2), r60_3, r60_4)).bind fun ((_, _, _), r64) =>
                                (loopO wainwrightlaw02_SlabKeeps.l2 ((((r51, r51_2), (r55, r55_2), (r60, r60_2), r51_3, r51_4, r55_3, r55_4, r60_3, r60_4), b1, r64, 0))).bind fun (((x5c, x5d), (y6c, y6d), (z7c, z7d), o3, o4, o5, o6, o7, o8), was9) =>
                                  (slab_Slab_Crash (((x5c, x5d), o3, o4), ([true] : List Bool))).bind fun ((r97, r97_2), r97_3, r97_4) =>
                                    (slab_Slab_Crash (((z7c, z7d), o7, o8), ([false] : List Bool))).bind fun ((r100, r100_2), r100_3, r100_4) =>
                                      (slab_Slab_Flush ((y6c, y6d), o5, o6)).bind fun (((r102, r102_2), r102_3, r102_4), r102_5) =>
                                        if (r102_5 == 0) = true then
                                          (slab_Image ((r97, r97_2), r97_3, r97_4)).bind fun ((_, _, _), r106) =>
                                            (slab_Image ((r102, r102_2), r102_3, r102_4)).bind fun ((_, _, _), r108) =>
                                              (wainwrightlaw02_texts (r106, r108)).bind fun r109 =>
                                                if r109 = true then
                                                  (slab_Image ((r100, r100_2), r100_3, r100_4)).bind fun ((_, _, _), r113) =>
                                                    (wainwrightlaw02_texts (r113, was9)).bind fun r115 =>
                                                      if r115 = true then
                                                        (slab_Slab_Loose ((r97, r97_2), r97_3, r97_4)).bind fun ((_, _, _), r119) =>
                                                          some ((((r119.length : Int) == 0)))
                                                      else
                                                        some false
                                                else
                                                  some false
                                        else
                                          some false
                        else
                          some false
                    else
                      some false

def wainwrightlaw02_SlabKeeps.ins : Spec := ⟨123, 0, [], [0, 1], (.cons (.v (.sl (.st (.pair I (.pair I (.pair .str (.sl .bool))))))) (.cons (.v (.sl (.st (.pair I (.pair I (.pair .str (.sl .bool))))))) .nil))⟩
def wainwrightlaw02_SlabKeeps.outs : List Spec := [⟨123, 0, [], [4], (.cons (.v .bool) .nil)⟩]
noncomputable def wainwrightlaw02_SlabKeeps.c : Callee' := ⟨6, mkFits wainwrightlaw02_SlabKeeps.ins wainwrightlaw02_SlabKeeps.outs, mkFun wainwrightlaw02_SlabKeeps.ins wainwrightlaw02_SlabKeeps.outs wainwrightlaw02_SlabKeeps⟩
theorem wainwrightlaw02_SlabKeeps.quiet : FunQuiet wainwrightlaw02_SlabKeeps.c.F := mkFun_quiet rfl rfl
noncomputable def wainwrightlaw02_SlabKeeps.ann : Ann :=
  (.seq (.reg []) (.seq (.seq (.reg [.callq [wainwrightlaw02_lives.c]]) (.cond (.seq (.reg []) .std) .std)) (.seq (.reg [.std, .callq [wainwrightlaw02_early.c], .std, .callq [wainwrightlaw02_early.c]]) (.seq (.reg [.call [slab_New.c], .call [slab_New.c], .call [slab_New.c]]) (.seq (.seq (.reg []) (.block (.loop ⟨123, 0, [.box (.cons (.ref 3) (.cons (.ref 4) (.cons (.v I) (.cons (.v I) .nil)))), .box (.cons (.ref 5) (.cons (.ref 6) (.cons (.v I) (.cons (.v I) .nil)))), .box (.cons (.ref 7) (.cons (.ref 8) (.cons (.v I) (.cons (.v I) .nil)))), .arr .str, .map I .str, .arr .str, .map I .str, .arr .str, .map I .str], [0, 1, 5, 6, 7, 8], (.cons (.v (.sl (.st (.pair I (.pair I (.pair .str (.sl .bool))))))) (.cons (.v (.sl (.st (.pair I (.pair I (.pair .str (.sl .bool))))))) (.cons (.ref 0) (.cons (.ref 1) (.cons (.ref 2) (.cons (.v I) .nil))))))⟩ [(.exit 0, ⟨123, 0, [.box (.cons (.ref 3) (.cons (.ref 4) (.cons (.v I) (.cons (.v I) .nil)))), .box (.cons (.ref 5) (.cons (.ref 6) (.cons (.v I) (.cons (.v I) .nil)))), .box (.cons (.ref 7) (.cons (.ref 8) (.cons (.v I) (.cons (.v I) .nil)))), .arr .str, .map I .str, .arr .str, .map I .str, .arr .str, .map I .str], [1, 5, 6, 7], (.cons (.v (.sl (.st (.pair I (.pair I (.pair .str (.sl .bool))))))) (.cons (.ref 0) (.cons (.ref 1) (.cons (.ref 2) .nil))))⟩)]
  (.seq (.seq (.reg []) (.cond .std .std)) (.seq (.block (.seq (.reg [.std, .std, .std, .std, .callq [wainwrightlaw02_Op_kind.c]]) (.cond (.seq (.reg [.std, .std, .std, .std, .std, .call [wainwrightlaw02_does_1.c]]) (.seq (.reg [.std, .std, .std, .std, .std, .call [wainwrightlaw02_does_1.c]]) (.reg [.std, .std, .std, .std, .std, .call [wainwrightlaw02_does_1.c]]))) .std))) (.reg [])))))) (.seq (.seq (.reg [.std, .call [slab_Slab_Flush.c], .std, .std, .std, .call [slab_Slab_Flush.c], .std, .std, .std, .std, .call [slab_Slab_Flush.c]]) (.cond (.seq (.reg []) .std) .std)) (.seq (.reg [.std, .callq [slab_Image.c]]) (.seq (.seq (.reg []) (.block (.loop ⟨123, 0, [.box (.cons (.ref 3) (.cons (.ref 4) (.cons (.v I) (.cons (.v I) .nil)))), .box (.cons (.ref 5) (.cons (.ref 6) (.cons (.v I) (.cons (.v I) .nil)))), .box (.cons (.ref 7) (.cons (.ref 8) (.cons (.v I) (.cons (.v I) .nil)))), .arr .str, .map I .str, .arr .str, .map I .str, .arr .str, .map I .str], [1, 5, 6, 7, 9, 10], (.cons (.v (.sl (.st (.pair I (.pair I (.pair .str (.sl .bool))))))) (.cons (.ref 0) (.cons (.ref 1) (.cons (.ref 2) (.cons (.v (.sl .str)) (.cons (.v I) .nil))))))⟩ [(.exit 2, ⟨123, 0, [.box (.cons (.ref 3) (.cons (.ref 4) (.cons (.v I) (.cons (.v I) .nil)))), .box (.cons (.ref 5) (.cons (.ref 6) (.cons (.v I) (.cons (.v I) .nil)))), .box (.cons (.ref 7) (.cons (.ref 8) (.cons (.v I) (.cons (.v I) .nil)))), .arr .str, .map I .str, .arr .str, .map I .str, .arr .str, .map I .str], [5, 6, 7, 9], (.cons (.ref 0) (.cons (.ref 1) (.cons (.ref 2) (.cons (.v (.sl .str)) .nil))))⟩)]
  (.seq (.seq (.reg []) (.cond .std .std)) (.seq (.block (.seq (.reg [.std, .std, .std, .std, .callq [wainwrightlaw02_Op_kind.c]]) (.cond (.seq (.reg [.std, .std, .std, .std, .std, .call [wainwrightlaw02_does_1.c]]) (.seq (.reg [.std, .std, .std, .std, .std, .call [wainwrightlaw02_does_1.c]]) (.reg [.std, .std, .std, .std, .std, .call [wainwrightlaw02_does_1.c]]))) .std))) (.reg [])))))) (.seq (.reg [.std, .inl .bool, .call [slab_Slab_Crash.c]]) (.seq (.reg [.std, .inl .bool, .call [slab_Slab_Crash.c]]) (.seq (.reg [.std, .call [slab_Slab_Flush.c], .std, .std, .std, .callq [slab_Image.c], .std, .callq [slab_Image.c], .callq [wainwrightlaw02_texts.c], .std, .std, .std, .callq [slab_Image.c], .std, .callq [wainwrightlaw02_texts.c], .std, .std, .std, .callq [slab_Slab_Loose.c]]) .std)))))))))))
noncomputable def wainwrightlaw02_SlabKeeps.code : Code := match Try.f6.body with | some c => c | none => .skip
theorem wainwrightlaw02_SlabKeeps.eq : absFn tt 123 wainwrightlaw02_SlabKeeps.ins wainwrightlaw02_SlabKeeps.outs wainwrightlaw02_SlabKeeps.code wainwrightlaw02_SlabKeeps.ann = wainwrightlaw02_SlabKeeps := by
  funext a
  kernel_rfl
theorem wainwrightlaw02_SlabKeeps.ok : wainwrightlaw02_SlabKeeps.ann.ok Try.prog 0 123 :=
  ann_ok (by kernel_rfl) (by kernel_rfl) (show ∀ c ∈ ([wainwrightlaw02_lives.c, wainwrightlaw02_early.c, wainwrightlaw02_early.c, slab_New.c, slab_New.c, slab_New.c, wainwrightlaw02_Op_kind.c, wainwrightlaw02_does_1.c, wainwrightlaw02_does_1.c, wainwrightlaw02_does_1.c, slab_Slab_Flush.c, slab_Slab_Flush.c, slab_Slab_Flush.c, slab_Image.c, wainwrightlaw02_Op_kind.c, wainwrightlaw02_does_1.c, wainwrightlaw02_does_1.c, wainwrightlaw02_does_1.c, slab_Slab_Crash.c, slab_Slab_Crash.c, slab_Slab_Flush.c, slab_Image.c, slab_Image.c, wainwrightlaw02_texts.c, slab_Image.c, wainwrightlaw02_texts.c, slab_Slab_Loose.c] : List Callee'), c.ok Try.prog from cs_cons wainwrightlaw02_lives.sound (cs_cons wainwrightlaw02_early.sound (cs_cons wainwrightlaw02_early.sound (cs_cons slab_New.sound (cs_cons slab_New.sound (cs_cons slab_New.sound (cs_cons wainwrightlaw02_Op_kind.sound (cs_cons wainwrightlaw02_does_1.sound (cs_cons wainwrightlaw02_does_1.sound (cs_cons wainwrightlaw02_does_1.sound (cs_cons slab_Slab_Flush.sound (cs_cons slab_Slab_Flush.sound (cs_cons slab_Slab_Flush.sound (cs_cons slab_Image.sound (cs_cons wainwrightlaw02_Op_kind.sound (cs_cons wainwrightlaw02_does_1.sound (cs_cons wainwrightlaw02_does_1.sound (cs_cons wainwrightlaw02_does_1.sound (cs_cons slab_Slab_Crash.sound (cs_cons slab_Slab_Crash.sound (cs_cons slab_Slab_Flush.sound (cs_cons slab_Image.sound (cs_cons slab_Image.sound (cs_cons wainwrightlaw02_texts.sound (cs_cons slab_Image.sound (cs_cons wainwrightlaw02_texts.sound (cs_cons slab_Slab_Loose.sound cs_nil)))))))))))))))))))))))))))
    (show ∀ c ∈ ([wainwrightlaw02_lives.c, wainwrightlaw02_early.c, wainwrightlaw02_early.c, wainwrightlaw02_Op_kind.c, slab_Image.c, wainwrightlaw02_Op_kind.c, slab_Image.c, slab_Image.c, wainwrightlaw02_texts.c, slab_Image.c, wainwrightlaw02_texts.c, slab_Slab_Loose.c] : List Callee'), FunQuiet c.F from cs_cons wainwrightlaw02_lives.quiet (cs_cons wainwrightlaw02_early.quiet (cs_cons wainwrightlaw02_early.quiet (cs_cons wainwrightlaw02_Op_kind.quiet (cs_cons slab_Image.quiet (cs_cons wainwrightlaw02_Op_kind.quiet (cs_cons slab_Image.quiet (cs_cons slab_Image.quiet (cs_cons wainwrightlaw02_texts.quiet (cs_cons slab_Image.quiet (cs_cons wainwrightlaw02_texts.quiet (cs_cons slab_Slab_Loose.quiet cs_nil))))))))))))
theorem wainwrightlaw02_SlabKeeps.sound : wainwrightlaw02_SlabKeeps.c.ok Try.prog := by
  refine ⟨?_, Try.f6, wainwrightlaw02_SlabKeeps.code, Try.func6, rfl, by decide⟩
  have h := fn_sound tt_ok mix_ok (x := wainwrightlaw02_SlabKeeps.ann) (ins := wainwrightlaw02_SlabKeeps.ins) (outs := wainwrightlaw02_SlabKeeps.outs) (N := 123) Try.func6 (c := wainwrightlaw02_SlabKeeps.code) rfl rfl (by kernel_rfl) (by kernel_rfl) wainwrightlaw02_SlabKeeps.ok (by decide)
  rw [wainwrightlaw02_SlabKeeps.eq] at h
  exact h

end Go.Proofs.Ytejeollidbbknaa.Abs
