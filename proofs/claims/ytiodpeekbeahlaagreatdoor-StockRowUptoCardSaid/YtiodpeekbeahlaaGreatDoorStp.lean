/- The functions as the abstract machine computes them: printed by gen2.py (own work). -/
import Derived.Test.YtiodpeekbeahlaaGreatDoorAbsStrs
import Derived.Test.YtiodpeekbeahlaaGreatDoorAbsSortedKeys
import Derived.Test.YtiodpeekbeahlaaGreatDoorImageF
import Derived.Test.YtiodpeekbeahlaaGreatDoorAbsFnR
import Derived.Test.YtiodpeekbeahlaaGreatDoorProg
import Derived.Test.YtiodpeekbeahlaaGreatDoorAbsFn
import Derived.KernelRfl
namespace Go.Proofs.YtiodpeekbeahlaaGreatDoor.Abs
open Go Go.Proofs
abbrev I := Ty.int .i64
set_option maxRecDepth 100000
set_option linter.unusedVariables false

def tt : Nat → TI
  | 3 => ⟨.int .i64, 1, 8, [.int .i64 0]⟩
  | 4 => ⟨.bool, 1, 1, [.bool false]⟩
  | 5 => ⟨.int .u8, 1, 1, [.int .u8 0]⟩
  | 9 => ⟨.str, 1, 16, [.string .empty]⟩
  | 22 => ⟨.sl 3, 1, 24, [.slice none 0 0]⟩
  | 23 => ⟨.sl 5, 1, 24, [.slice none 0 0]⟩
  | 27 => ⟨.ptr 117, 1, 8, [.pointer none]⟩
  | 28 => ⟨.int .i64, 1, 8, [.int .i64 0]⟩
  | 33 => ⟨.sl 115, 1, 24, [.slice none 0 0]⟩
  | 39 => ⟨.int .u64, 1, 8, [.int .u64 0]⟩
  | 40 => ⟨.ptr 126, 1, 8, [.pointer none]⟩
  | 42 => ⟨.sl 9, 1, 24, [.slice none 0 0]⟩
  | 56 => ⟨.sl 62, 1, 24, [.slice none 0 0]⟩
  | 57 => ⟨.ptr 68, 1, 8, [.pointer none]⟩
  | 62 => ⟨.st [(3, 0), (3, 1)], 2, 16, [.int .i64 0, .int .i64 0]⟩
  | 65 => ⟨.ptr 153, 1, 8, [.pointer none]⟩
  | 66 => ⟨.ptr 106, 1, 8, [.pointer none]⟩
  | 68 => ⟨.st [(65, 0), (66, 1)], 2, 16, [.pointer none, .pointer none]⟩
  | 81 => ⟨.st [(3, 0), (3, 1), (3, 2)], 3, 24, [.int .i64 0, .int .i64 0, .int .i64 0]⟩
  | 106 => ⟨.st [(42, 0), (42, 1)], 2, 48, [.slice none 0 0, .slice none 0 0]⟩
  | 115 => ⟨.st [(3, 0), (9, 1)], 2, 24, [.int .i64 0, .string .empty]⟩
  | 117 => ⟨.st [(40, 0), (4, 1), (3, 2)], 3, 24, [.pointer none, .bool false, .int .i64 0]⟩
  | 124 => ⟨.map 3 9, 1, 8, [.map none]⟩
  | 126 => ⟨.st [(42, 0), (124, 1), (3, 2), (3, 3)], 4, 48, [.slice none 0 0, .map none, .int .i64 0, .int .i64 0]⟩
  | 142 => ⟨.st [(65, 0), (81, 1), (9, 4)], 5, 48, [.pointer none, .int .i64 0, .int .i64 0, .int .i64 0, .string .empty]⟩
  | 151 => ⟨.st [(27, 0), (124, 1)], 2, 16, [.pointer none, .map none]⟩
  | 153 => ⟨.st [(151, 0)], 2, 16, [.pointer none, .map none]⟩
  | 171 => ⟨.sl 172, 1, 24, [.slice none 0 0]⟩
  | 172 => ⟨.func, 1, 8, [.nilFunc]⟩
  | 195 => ⟨.arr 256 4, 256, 256, [.bool false, .bool false, .bool false, .bool false, .bool false, .bool false, .bool false, .bool false, .bool false, .bool false, .bool false, .bool false, .bool false, .bool false, .bool false, .bool false, .bool false, .bool false, .bool false, .bool false, .bool false, .bool false, .bool false, .bool false, .bool false, .bool false, .bool false, .bool false, .bool false, .bool false, .bool false, .bool false, .bool false, .bool false, .bool false, .bool false, .bool false, .bool false, .bool false, .bool false, .bool false, .bool false, .bool false, .bool false, .bool false, .bool false, .bool false, .bool false, .bool false, .bool false, .bool false, .bool false, .bool false, .bool false, .bool false, .bool false, .bool false, .bool false, .bool false, .bool false, .bool false, .bool false, .bool false, .bool false, .bool false, .bool false, .bool false, .bool false, .bool false, .bool false, .bool false, .bool false, .bool false, .bool false, .bool false, .bool false, .bool false, .bool false, .bool false, .bool false, .bool false, .bool false, .bool false, .bool false, .bool false, .bool false, .bool false, .bool false, .bool false, .bool false, .bool false, .bool false, .bool false, .bool false, .bool false, .bool false, .bool false, .bool false, .bool false, .bool false, .bool false, .bool false, .bool false, .bool false, .bool false, .bool false, .bool false, .bool false, .bool false, .bool false, .bool false, .bool false, .bool false, .bool false, .bool false, .bool false, .bool false, .bool false, .bool false, .bool false, .bool false, .bool false, .bool false, .bool false, .bool false, .bool false, .bool false, .bool false, .bool false, .bool false, .bool false, .bool false, .bool false, .bool false, .bool false, .bool false, .bool false, .bool false, .bool false, .bool false, .bool false, .bool false, .bool false, .bool false, .bool false, .bool false, .bool false, .bool false, .bool false, .bool false, .bool false, .bool false, .bool false, .bool false, .bool false, .bool false, .bool false, .bool false, .bool false, .bool false, .bool false, .bool false, .bool false, .bool false, .bool false, .bool false, .bool false, .bool false, .bool false, .bool false, .bool false, .bool false, .bool false, .bool false, .bool false, .bool false, .bool false, .bool false, .bool false, .bool false, .bool false, .bool false, .bool false, .bool false, .bool false, .bool false, .bool false, .bool false, .bool false, .bool false, .bool false, .bool false, .bool false, .bool false, .bool false, .bool false, .bool false, .bool false, .bool false, .bool false, .bool false, .bool false, .bool false, .bool false, .bool false, .bool false, .bool false, .bool false, .bool false, .bool false, .bool false, .bool false, .bool false, .bool false, .bool false, .bool false, .bool false, .bool false, .bool false, .bool false, .bool false, .bool false, .bool false, .bool false, .bool false, .bool false, .bool false, .bool false, .bool false, .bool false, .bool false, .bool false, .bool false, .bool false, .bool false, .bool false, .bool false, .bool false, .bool false, .bool false, .bool false, .bool false, .bool false, .bool false, .bool false, .bool false, .bool false, .bool false, .bool false, .bool false, .bool false, .bool false, .bool false, .bool false, .bool false, .bool false]⟩
  | 200 => ⟨.map 3 3, 1, 8, [.map none]⟩
  | 222 => ⟨.int .u32, 1, 4, [.int .u32 0]⟩
  | 225 => ⟨.int .u64, 1, 8, [.int .u64 0]⟩
  | _ => ⟨.other, 0, 0, []⟩
theorem tt_ok : TTok Tryz.prog tt := by
  intro t
  unfold tt
  split
  · exact .inr (ti_ok (d := .int .i64) (by kernel_rfl) (by simp [TK.fits]) (by kernel_rfl))
  · exact .inr (ti_ok (d := .bool) (by kernel_rfl) (by simp [TK.fits]) (by kernel_rfl))
  · exact .inr (ti_ok (d := .int .u8) (by kernel_rfl) (by simp [TK.fits]) (by kernel_rfl))
  · exact .inr (ti_ok (d := .string) (by kernel_rfl) (by simp [TK.fits]) (by kernel_rfl))
  · exact .inr (ti_ok (d := .slice 3) (by kernel_rfl) (by simp [TK.fits]) (by kernel_rfl))
  · exact .inr (ti_ok (d := .slice 5) (by kernel_rfl) (by simp [TK.fits]) (by kernel_rfl))
  · exact .inr (ti_ok (d := .pointer 117) (by kernel_rfl) (by simp [TK.fits]) (by kernel_rfl))
  · exact .inr (ti_ok (d := .int .i64) (by kernel_rfl) (by simp [TK.fits]) (by kernel_rfl))
  · exact .inr (ti_ok (d := .slice 115) (by kernel_rfl) (by simp [TK.fits]) (by kernel_rfl))
  · exact .inr (ti_ok (d := .int .u64) (by kernel_rfl) (by simp [TK.fits]) (by kernel_rfl))
  · exact .inr (ti_ok (d := .pointer 126) (by kernel_rfl) (by simp [TK.fits]) (by kernel_rfl))
  · exact .inr (ti_ok (d := .slice 9) (by kernel_rfl) (by simp [TK.fits]) (by kernel_rfl))
  · exact .inr (ti_ok (d := .slice 62) (by kernel_rfl) (by simp [TK.fits]) (by kernel_rfl))
  · exact .inr (ti_ok (d := .pointer 68) (by kernel_rfl) (by simp [TK.fits]) (by kernel_rfl))
  · exact .inr (ti_ok_st (by kernel_rfl) (by kernel_rfl))
  · exact .inr (ti_ok (d := .pointer 153) (by kernel_rfl) (by simp [TK.fits]) (by kernel_rfl))
  · exact .inr (ti_ok (d := .pointer 106) (by kernel_rfl) (by simp [TK.fits]) (by kernel_rfl))
  · exact .inr (ti_ok_st (by kernel_rfl) (by kernel_rfl))
  · exact .inr (ti_ok_st (by kernel_rfl) (by kernel_rfl))
  · exact .inr (ti_ok_st (by kernel_rfl) (by kernel_rfl))
  · exact .inr (ti_ok_st (by kernel_rfl) (by kernel_rfl))
  · exact .inr (ti_ok_st (by kernel_rfl) (by kernel_rfl))
  · exact .inr (ti_ok (d := .map 3 9) (by kernel_rfl) (by simp [TK.fits]) (by kernel_rfl))
  · exact .inr (ti_ok_st (by kernel_rfl) (by kernel_rfl))
  · exact .inr (ti_ok_st (by kernel_rfl) (by kernel_rfl))
  · exact .inr (ti_ok_st (by kernel_rfl) (by kernel_rfl))
  · exact .inr (ti_ok_st (by kernel_rfl) (by kernel_rfl))
  · exact .inr (ti_ok (d := .slice 172) (by kernel_rfl) (by simp [TK.fits]) (by kernel_rfl))
  · exact .inr (ti_ok_fn (by kernel_rfl) rfl (by kernel_rfl))
  · exact .inr (ti_ok (d := .array 256 4) (by kernel_rfl) (by simp [TK.fits]) (by kernel_rfl))
  · exact .inr (ti_ok (d := .map 3 3) (by kernel_rfl) (by simp [TK.fits]) (by kernel_rfl))
  · exact .inr (ti_ok (d := .int .u32) (by kernel_rfl) (by simp [TK.fits]) (by kernel_rfl))
  · exact .inr (ti_ok (d := .int .u64) (by kernel_rfl) (by simp [TK.fits]) (by kernel_rfl))
  · exact .inl rfl
theorem mix_ok : Tryz.prog.follows .mixedOrders = true := by kernel_rfl


/-! ### wainwright/mould.fits: function 155 -/
noncomputable def mould_fits : (List UInt8 × Int) → Option (Int) := fun (s0, n1) =>
  ((
    if decide (n1 < 0) = false then
      some (((s0, n1, decide (n1 > 1000))))
    else
      some (((s0, n1, true)))) : Option (List UInt8 × Int × Bool)).bind fun (s0, n1, t5) =>
    if t5 = true then
      some 1
    else
      if decide ((s0.length : Int) > n1) = true then
        some 3
      else
        some 0

def mould_fits.ins : Spec := ⟨17, 0, [], [0, 1], (.cons (.v .str) (.cons (.v I) .nil))⟩
def mould_fits.outs : List Spec := [⟨17, 0, [], [4], (.cons (.v I) .nil)⟩]
noncomputable def mould_fits.c : Callee' := ⟨155, mkFits mould_fits.ins mould_fits.outs, mkFun mould_fits.ins mould_fits.outs mould_fits, mkFun_nat _ _ _⟩
theorem mould_fits.quiet : FunQuiet mould_fits.c.F := mkFun_quiet rfl rfl
noncomputable def mould_fits.ann : Ann :=
  (.seq (.reg []) (.seq (.block (.join [(.norm, ⟨17, 0, [], [0, 1, 5], (.cons (.v .str) (.cons (.v I) (.cons (.v .bool) .nil)))⟩)]
  (.reg []) (.cond (.seq (.reg []) .std) (.seq (.reg []) (.cond (.seq (.reg []) .std) .std))))) (.seq (.reg []) .std)))
noncomputable def mould_fits.code : Code := match Tryz.f155.body with | some c => c | none => .skip
theorem mould_fits.eq : absFn tt 17 mould_fits.ins mould_fits.outs mould_fits.code mould_fits.ann = mould_fits := by
  funext a
  kernel_rfl
theorem mould_fits.ok : mould_fits.ann.ok Tryz.prog 0 17 :=
  ann_ok (by kernel_rfl) (by kernel_rfl) (show ∀ c ∈ ([] : List Callee'), c.ok Tryz.prog from cs_nil)
    (show ∀ c ∈ ([] : List Callee'), FunQuiet c.F from cs_nil)
theorem mould_fits.sound : mould_fits.c.ok Tryz.prog := by
  refine ⟨?_, Tryz.f155, mould_fits.code, Tryz.func155, rfl, by decide⟩
  have h := fn_sound tt_ok mix_ok (x := mould_fits.ann) (ins := mould_fits.ins) (outs := mould_fits.outs) (N := 17) Tryz.func155 (c := mould_fits.code) rfl rfl (by kernel_rfl) (by kernel_rfl) mould_fits.ok (by decide)
  rw [mould_fits.eq] at h
  exact h

/-! ### wainwright/mould.Pad: function 109 -/
noncomputable def mould_Pad : (List UInt8 × Int) → Option (List UInt8 × Int) := fun (s0, n1) =>
  (mould_fits (s0, n1)).bind fun r9 =>
    if (r9 != 0) = true then
      some ((([], r9)))
    else
      (strings_Repeat (([0] : List UInt8), IntKind.i64.wrap (n1 - (s0.length : Int)))).bind fun r18 =>
        if s0.length + r18.length ≤ 9223372036854775807 then
          some (((s0 ++ r18, 0)))
        else none

def mould_Pad.ins : Spec := ⟨20, 0, [], [0, 1], (.cons (.v .str) (.cons (.v I) .nil))⟩
def mould_Pad.outs : List Spec := [⟨20, 0, [], [4, 5], (.cons (.v .str) (.cons (.v I) .nil))⟩]
noncomputable def mould_Pad.c : Callee' := ⟨109, mkFits mould_Pad.ins mould_Pad.outs, mkFun mould_Pad.ins mould_Pad.outs mould_Pad, mkFun_nat _ _ _⟩
theorem mould_Pad.quiet : FunQuiet mould_Pad.c.F := mkFun_quiet rfl rfl
noncomputable def mould_Pad.ann : Ann :=
  (.seq (.reg []) (.seq (.seq (.reg [.std, .std, .callq [mould_fits.c]]) (.seq (.reg []) (.cond (.seq (.reg []) .std) .std))) (.seq (.reg [.std, .std, .std, .std, .std, .callq [strings_Repeat.c]]) .std)))
noncomputable def mould_Pad.code : Code := match Tryz.f109.body with | some c => c | none => .skip
theorem mould_Pad.eq : absFn tt 20 mould_Pad.ins mould_Pad.outs mould_Pad.code mould_Pad.ann = mould_Pad := by
  funext a
  kernel_rfl
theorem mould_Pad.ok : mould_Pad.ann.ok Tryz.prog 0 20 :=
  ann_ok (by kernel_rfl) (by kernel_rfl) (show ∀ c ∈ ([mould_fits.c, strings_Repeat.c] : List Callee'), c.ok Tryz.prog from cs_cons mould_fits.sound (cs_cons strings_Repeat.sound cs_nil))
    (show ∀ c ∈ ([mould_fits.c, strings_Repeat.c] : List Callee'), FunQuiet c.F from cs_cons mould_fits.quiet (cs_cons strings_Repeat.quiet cs_nil))
theorem mould_Pad.sound : mould_Pad.c.ok Tryz.prog := by
  refine ⟨?_, Tryz.f109, mould_Pad.code, Tryz.func109, rfl, by decide⟩
  have h := fn_sound tt_ok mix_ok (x := mould_Pad.ann) (ins := mould_Pad.ins) (outs := mould_Pad.outs) (N := 20) Tryz.func109 (c := mould_Pad.code) rfl rfl (by kernel_rfl) (by kernel_rfl) mould_Pad.ok (by decide)
  rw [mould_Pad.eq] at h
  exact h

/-! ### wainwright/slab.whole: function 84 -/
noncomputable def slab_whole : List UInt8 → Option (List UInt8) := fun s0 =>
  if 0 ≤ (if 128 < (s0.length : Int) then 128 else (s0.length : Int)) ∧ (if 128 < (s0.length : Int) then 128 else (s0.length : Int)) ≤ (s0.length : Int) then
    (mould_Pad (s0.take ((if 128 < (s0.length : Int) then 128 else (s0.length : Int))).toNat, 128)).bind fun (r11, r11_2) =>
      some r11
  else none

def slab_whole.ins : Spec := ⟨15, 0, [], [0], (.cons (.v .str) .nil)⟩
def slab_whole.outs : List Spec := [⟨15, 0, [], [2], (.cons (.v .str) .nil)⟩]
noncomputable def slab_whole.c : Callee' := ⟨84, mkFits slab_whole.ins slab_whole.outs, mkFun slab_whole.ins slab_whole.outs slab_whole, mkFun_nat _ _ _⟩
theorem slab_whole.quiet : FunQuiet slab_whole.c.F := mkFun_quiet rfl rfl
noncomputable def slab_whole.ann : Ann :=
  (.seq (.reg []) (.seq (.reg [.std, .std, .std, .std, .std, .callq [mould_Pad.c]]) (.seq (.reg []) .std)))
noncomputable def slab_whole.code : Code := match Tryz.f84.body with | some c => c | none => .skip
theorem slab_whole.eq : absFn tt 15 slab_whole.ins slab_whole.outs slab_whole.code slab_whole.ann = slab_whole := by
  funext a
  kernel_rfl
theorem slab_whole.ok : slab_whole.ann.ok Tryz.prog 0 15 :=
  ann_ok (by kernel_rfl) (by kernel_rfl) (show ∀ c ∈ ([mould_Pad.c] : List Callee'), c.ok Tryz.prog from cs_cons mould_Pad.sound cs_nil)
    (show ∀ c ∈ ([mould_Pad.c] : List Callee'), FunQuiet c.F from cs_cons mould_Pad.quiet cs_nil)
theorem slab_whole.sound : slab_whole.c.ok Tryz.prog := by
  refine ⟨?_, Tryz.f84, slab_whole.code, Tryz.func84, rfl, by decide⟩
  have h := fn_sound tt_ok mix_ok (x := slab_whole.ann) (ins := slab_whole.ins) (outs := slab_whole.outs) (N := 15) Tryz.func84 (c := slab_whole.code) rfl rfl (by kernel_rfl) (by kernel_rfl) slab_whole.ok (by decide)
  rw [slab_whole.eq] at h
  exact h

/-! ### wainwright/slab.Load: function 32 -/
noncomputable def slab_Load.l1 : (((Int × Int) × List (List UInt8) × List (Int × List UInt8)) × List (List UInt8) × Int × Int) → Option ((((Int × Int) × List (List UInt8) × List (Int × List UInt8)) × List (List UInt8) × Int × Int) ⊕ ((Int × Int) × List (List UInt8) × List (Int × List UInt8))) := fun (((s3c, s3d), o1, o2), t13, t14, t15) =>
  if decide (t15 < t14) = true then
    if 0 ≤ t15 ∧ t15 < (t13.length : Int) then
      (slab_whole (t13.getD t15.toNat [])).bind fun r25 =>
        if roomOk (o1.length + (([r25] : List (List UInt8))).length) 16 then
          some (.inl ((((s3c, s3d), o1 ++ (([r25] : List (List UInt8))), o2), t13, t14, IntKind.i64.wrap (t15 + 1))))
        else none
    else none
  else
    some (.inr ((((s3c, s3d), o1, o2))))

noncomputable def slab_Load : List (List UInt8) → Option ((Int × Int) × List (List UInt8) × List (Int × List UInt8)) := fun image0 =>
  if 0 ≤ (if 1000 < (image0.length : Int) then 1000 else (image0.length : Int)) ∧ (if 1000 < (image0.length : Int) then 1000 else (image0.length : Int)) ≤ (image0.length : Int) then
    (loopO slab_Load.l1 ((((0, (-1)), [], ([] : List (Int × List UInt8))), image0.take ((if 1000 < (image0.length : Int) then 1000 else (image0.length : Int))).toNat, ((image0.take ((if 1000 < (image0.length : Int) then 1000 else (image0.length : Int))).toNat).length : Int), 0))).bind fun ((s3c, s3d), o1, o2) =>
      some ((((s3c, s3d), o1, o2)))
  else none

def slab_Load.ins : Spec := ⟨32, 0, [], [0], (.cons (.v (.sl .str)) .nil)⟩
def slab_Load.outs : List Spec := [⟨32, 0, [.box (.cons (.ref 1) (.cons (.ref 2) (.cons (.v I) (.cons (.v I) .nil)))), .arr .str, .map I .str], [2], (.cons (.ref 0) .nil)⟩]
noncomputable def slab_Load.c : Callee' := ⟨32, mkFits slab_Load.ins slab_Load.outs, mkFun slab_Load.ins slab_Load.outs slab_Load, mkFun_nat _ _ _⟩
noncomputable def slab_Load.ann : Ann :=
  (.seq (.reg []) (.seq (.reg [.mp I .str]) (.seq (.seq (.reg []) (.block (.loop ⟨32, 0, [.box (.cons (.ref 1) (.cons (.ref 2) (.cons (.v I) (.cons (.v I) .nil)))), .arr .str, .map I .str], [3, 13, 14, 15], (.cons (.ref 0) (.cons (.v (.sl .str)) (.cons (.v I) (.cons (.v I) .nil))))⟩ [(.exit 0, ⟨32, 0, [.box (.cons (.ref 1) (.cons (.ref 2) (.cons (.v I) (.cons (.v I) .nil)))), .arr .str, .map I .str], [3], (.cons (.ref 0) .nil)⟩)]
  (.seq (.reg []) (.seq (.cond .std .std) (.seq (.block (.seq (.reg []) (.drw [.std, .std, .std, .std, .std, .std, .callq [slab_whole.c], .inl .str, .obj .str]))) (.reg []))))))) (.seq (.reg []) .std))))
noncomputable def slab_Load.code : Code := match Tryz.f32.body with | some c => c | none => .skip
theorem slab_Load.eq : absFn tt 32 slab_Load.ins slab_Load.outs slab_Load.code slab_Load.ann = slab_Load := by
  funext a
  kernel_rfl
theorem slab_Load.ok : slab_Load.ann.ok Tryz.prog 0 32 :=
  ann_ok (by kernel_rfl) (by kernel_rfl) (show ∀ c ∈ ([slab_whole.c] : List Callee'), c.ok Tryz.prog from cs_cons slab_whole.sound cs_nil)
    (show ∀ c ∈ ([slab_whole.c] : List Callee'), FunQuiet c.F from cs_cons slab_whole.quiet cs_nil)
theorem slab_Load.sound : slab_Load.c.ok Tryz.prog := by
  refine ⟨?_, Tryz.f32, slab_Load.code, Tryz.func32, rfl, by decide⟩
  have h := fn_sound tt_ok mix_ok (x := slab_Load.ann) (ins := slab_Load.ins) (outs := slab_Load.outs) (N := 32) Tryz.func32 (c := slab_Load.code) rfl rfl (by kernel_rfl) (by kernel_rfl) slab_Load.ok (by decide)
  rw [slab_Load.eq] at h
  exact h

/-! ### wainwright/slab.New: function 23 -/
noncomputable def slab_New : Int → Option ((Int × Int) × List (List UInt8) × List (Int × List UInt8)) := fun n0 =>
  if 0 ≤ (if 1000 < (if 0 > n0 then 0 else n0) then 1000 else (if 0 > n0 then 0 else n0)) ∧ (if 1000 < (if 0 > n0 then 0 else n0) then 1000 else (if 0 > n0 then 0 else n0)) ≤ (if 1000 < (if 0 > n0 then 0 else n0) then 1000 else (if 0 > n0 then 0 else n0)) ∧ (if 1000 < (if 0 > n0 then 0 else n0) then 1000 else (if 0 > n0 then 0 else n0)) * (16 : Nat) ≤ 140737488355328 ∧ (if 1000 < (if 0 > n0 then 0 else n0) then 1000 else (if 0 > n0 then 0 else n0)) ≤ 9223372036854775807 then
    (slab_Load (List.replicate ((if 1000 < (if 0 > n0 then 0 else n0) then 1000 else (if 0 > n0 then 0 else n0))).toNat ([] : List UInt8))).bind fun ((r7, r7_2), r7_3, r7_4) =>
      some ((((r7, r7_2), r7_3, r7_4)))
  else none

def slab_New.ins : Spec := ⟨8, 0, [], [0], (.cons (.v I) .nil)⟩
def slab_New.outs : List Spec := [⟨8, 0, [.box (.cons (.ref 1) (.cons (.ref 2) (.cons (.v I) (.cons (.v I) .nil)))), .arr .str, .map I .str], [2], (.cons (.ref 0) .nil)⟩]
noncomputable def slab_New.c : Callee' := ⟨23, mkFits slab_New.ins slab_New.outs, mkFun slab_New.ins slab_New.outs slab_New, mkFun_nat _ _ _⟩
noncomputable def slab_New.ann : Ann :=
  (.seq (.reg []) (.seq (.reg [.std, .std, .std, .obj .str, .call [slab_Load.c]]) .std))
noncomputable def slab_New.code : Code := match Tryz.f23.body with | some c => c | none => .skip
theorem slab_New.eq : absFn tt 8 slab_New.ins slab_New.outs slab_New.code slab_New.ann = slab_New := by
  funext a
  kernel_rfl
theorem slab_New.ok : slab_New.ann.ok Tryz.prog 0 8 :=
  ann_ok (by kernel_rfl) (by kernel_rfl) (show ∀ c ∈ ([slab_Load.c] : List Callee'), c.ok Tryz.prog from cs_cons slab_Load.sound cs_nil)
    (show ∀ c ∈ ([] : List Callee'), FunQuiet c.F from cs_nil)
theorem slab_New.sound : slab_New.c.ok Tryz.prog := by
  refine ⟨?_, Tryz.f23, slab_New.code, Tryz.func23, rfl, by decide⟩
  have h := fn_sound tt_ok mix_ok (x := slab_New.ann) (ins := slab_New.ins) (outs := slab_New.outs) (N := 8) Tryz.func23 (c := slab_New.code) rfl rfl (by kernel_rfl) (by kernel_rfl) slab_New.ok (by decide)
  rw [slab_New.eq] at h
  exact h

/-! ### (*wainwright/slab.Slab).Size: function 67 -/
noncomputable def slab_Slab_Size : (List (List UInt8) × (List (Int × List UInt8)) × Int × Int) → Option (Int) := fun s0 =>
  some (((s0.1.length : Int)))

def slab_Slab_Size.ins : Spec := ⟨10, 0, [], [0], (.cons (.v (.ptr (.pair (.sl .str) (.pair (.map I .str) (.pair I I))))) .nil)⟩
def slab_Slab_Size.outs : List Spec := [⟨10, 0, [], [2], (.cons (.v I) .nil)⟩]
noncomputable def slab_Slab_Size.c : Callee' := ⟨67, mkFits slab_Slab_Size.ins slab_Slab_Size.outs, mkFun slab_Slab_Size.ins slab_Slab_Size.outs slab_Slab_Size, mkFun_nat _ _ _⟩
theorem slab_Slab_Size.quiet : FunQuiet slab_Slab_Size.c.F := mkFun_quiet rfl rfl
noncomputable def slab_Slab_Size.ann : Ann :=
  (.seq (.reg []) (.seq (.seq (.reg [.std, .obj .bool]) (.cond (.seq (.reg []) .std) .std)) (.seq (.reg []) .std)))
noncomputable def slab_Slab_Size.code : Code := match Tryz.f67.body with | some c => c | none => .skip
theorem slab_Slab_Size.eq : absFn tt 10 slab_Slab_Size.ins slab_Slab_Size.outs slab_Slab_Size.code slab_Slab_Size.ann = slab_Slab_Size := by
  funext a
  kernel_rfl
theorem slab_Slab_Size.ok : slab_Slab_Size.ann.ok Tryz.prog 0 10 :=
  ann_ok (by kernel_rfl) (by kernel_rfl) (show ∀ c ∈ ([] : List Callee'), c.ok Tryz.prog from cs_nil)
    (show ∀ c ∈ ([] : List Callee'), FunQuiet c.F from cs_nil)
theorem slab_Slab_Size.sound : slab_Slab_Size.c.ok Tryz.prog := by
  refine ⟨?_, Tryz.f67, slab_Slab_Size.code, Tryz.func67, rfl, by decide⟩
  have h := fn_sound tt_ok mix_ok (x := slab_Slab_Size.ann) (ins := slab_Slab_Size.ins) (outs := slab_Slab_Size.outs) (N := 10) Tryz.func67 (c := slab_Slab_Size.code) rfl rfl (by kernel_rfl) (by kernel_rfl) slab_Slab_Size.ok (by decide)
  rw [slab_Slab_Size.eq] at h
  exact h

/-! ### (*wainwright/slab.Slab).there: function 129 -/
noncomputable def slab_Slab_there : ((List (List UInt8) × (List (Int × List UInt8)) × Int × Int) × Int) → Option (Bool) := fun (s0, i1) =>
  if decide (i1 ≥ 0) = true then
    some ((decide (i1 < (s0.1.length : Int))))
  else
    some false

def slab_Slab_there.ins : Spec := ⟨20, 0, [], [0, 1], (.cons (.v (.ptr (.pair (.sl .str) (.pair (.map I .str) (.pair I I))))) (.cons (.v I) .nil))⟩
def slab_Slab_there.outs : List Spec := [⟨20, 0, [], [4], (.cons (.v .bool) .nil)⟩]
noncomputable def slab_Slab_there.c : Callee' := ⟨129, mkFits slab_Slab_there.ins slab_Slab_there.outs, mkFun slab_Slab_there.ins slab_Slab_there.outs slab_Slab_there, mkFun_nat _ _ _⟩
theorem slab_Slab_there.quiet : FunQuiet slab_Slab_there.c.F := mkFun_quiet rfl rfl
noncomputable def slab_Slab_there.ann : Ann :=
  (.seq (.reg []) (.seq (.reg [.std, .obj .bool]) .std))
noncomputable def slab_Slab_there.code : Code := match Tryz.f129.body with | some c => c | none => .skip
theorem slab_Slab_there.eq : absFn tt 20 slab_Slab_there.ins slab_Slab_there.outs slab_Slab_there.code slab_Slab_there.ann = slab_Slab_there := by
  funext a
  kernel_rfl
theorem slab_Slab_there.ok : slab_Slab_there.ann.ok Tryz.prog 0 20 :=
  ann_ok (by kernel_rfl) (by kernel_rfl) (show ∀ c ∈ ([] : List Callee'), c.ok Tryz.prog from cs_nil)
    (show ∀ c ∈ ([] : List Callee'), FunQuiet c.F from cs_nil)
theorem slab_Slab_there.sound : slab_Slab_there.c.ok Tryz.prog := by
  refine ⟨?_, Tryz.f129, slab_Slab_there.code, Tryz.func129, rfl, by decide⟩
  have h := fn_sound tt_ok mix_ok (x := slab_Slab_there.ann) (ins := slab_Slab_there.ins) (outs := slab_Slab_there.outs) (N := 20) Tryz.func129 (c := slab_Slab_there.code) rfl rfl (by kernel_rfl) (by kernel_rfl) slab_Slab_there.ok (by decide)
  rw [slab_Slab_there.eq] at h
  exact h

/-! ### (*wainwright/slab.Slab).Read: function 70 -/
noncomputable def slab_Slab_Read : ((List (List UInt8) × (List (Int × List UInt8)) × Int × Int) × Int) → Option (List UInt8) := fun (s0, i1) =>
  (slab_Slab_there (s0, i1)).bind fun r9 =>
    if (!r9) = true then
      some []
    else
      if (mget (K := I) (V := .str) s0.2.1 i1).isSome = true then
        some ((((mget (K := I) (V := .str) s0.2.1 i1).getD [])))
      else
        if 0 ≤ i1 ∧ i1 < (s0.1.length : Int) then
          some ((s0.1.getD i1.toNat []))
        else none

def slab_Slab_Read.ins : Spec := ⟨29, 0, [], [0, 1], (.cons (.v (.ptr (.pair (.sl .str) (.pair (.map I .str) (.pair I I))))) (.cons (.v I) .nil))⟩
def slab_Slab_Read.outs : List Spec := [⟨29, 0, [], [4], (.cons (.v .str) .nil)⟩]
noncomputable def slab_Slab_Read.c : Callee' := ⟨70, mkFits slab_Slab_Read.ins slab_Slab_Read.outs, mkFun slab_Slab_Read.ins slab_Slab_Read.outs slab_Slab_Read, mkFun_nat _ _ _⟩
theorem slab_Slab_Read.quiet : FunQuiet slab_Slab_Read.c.F := mkFun_quiet rfl rfl
noncomputable def slab_Slab_Read.ann : Ann :=
  (.seq (.reg []) (.seq (.seq (.reg [.std, .std, .callq [slab_Slab_there.c]]) (.cond (.seq (.reg []) .std) .std)) (.seq (.seq (.reg []) (.seq (.reg []) (.cond (.seq (.reg []) .std) .std))) (.seq (.reg []) .std))))
noncomputable def slab_Slab_Read.code : Code := match Tryz.f70.body with | some c => c | none => .skip
theorem slab_Slab_Read.eq : absFn tt 29 slab_Slab_Read.ins slab_Slab_Read.outs slab_Slab_Read.code slab_Slab_Read.ann = slab_Slab_Read := by
  funext a
  kernel_rfl
theorem slab_Slab_Read.ok : slab_Slab_Read.ann.ok Tryz.prog 0 29 :=
  ann_ok (by kernel_rfl) (by kernel_rfl) (show ∀ c ∈ ([slab_Slab_there.c] : List Callee'), c.ok Tryz.prog from cs_cons slab_Slab_there.sound cs_nil)
    (show ∀ c ∈ ([slab_Slab_there.c] : List Callee'), FunQuiet c.F from cs_cons slab_Slab_there.quiet cs_nil)
theorem slab_Slab_Read.sound : slab_Slab_Read.c.ok Tryz.prog := by
  refine ⟨?_, Tryz.f70, slab_Slab_Read.code, Tryz.func70, rfl, by decide⟩
  have h := fn_sound tt_ok mix_ok (x := slab_Slab_Read.ann) (ins := slab_Slab_Read.ins) (outs := slab_Slab_Read.outs) (N := 29) Tryz.func70 (c := slab_Slab_Read.code) rfl rfl (by kernel_rfl) (by kernel_rfl) slab_Slab_Read.ok (by decide)
  rw [slab_Slab_Read.eq] at h
  exact h

/-! ### math/bits.Mul64: function 197 -/
noncomputable def bits_Mul64 : (Int × Int) → Option (Int × Int) := fun (x0, y1) =>
  some (((IntKind.u64.wrap ((IntKind.u64.wrap ((IntKind.u64.wrap ((Int.fdiv x0 (2 ^ 32)) * (Int.fdiv y1 (2 ^ 32)))) + (Int.fdiv (IntKind.u64.wrap ((IntKind.u64.wrap ((Int.fdiv x0 (2 ^ 32)) * (bitsOp .and .u64 y1 4294967295))) + (Int.fdiv (IntKind.u64.wrap ((bitsOp .and .u64 x0 4294967295) * (bitsOp .and .u64 y1 4294967295))) (2 ^ 32)))) (2 ^ 32)))) + (Int.fdiv (IntKind.u64.wrap ((bitsOp .and .u64 (IntKind.u64.wrap ((IntKind.u64.wrap ((Int.fdiv x0 (2 ^ 32)) * (bitsOp .and .u64 y1 4294967295))) + (Int.fdiv (IntKind.u64.wrap ((bitsOp .and .u64 x0 4294967295) * (bitsOp .and .u64 y1 4294967295))) (2 ^ 32)))) 4294967295) + (IntKind.u64.wrap ((bitsOp .and .u64 x0 4294967295) * (Int.fdiv y1 (2 ^ 32)))))) (2 ^ 32))), IntKind.u64.wrap (x0 * y1))))

def bits_Mul64.ins : Spec := ⟨51, 0, [], [0, 1], (.cons (.v (.int .u64)) (.cons (.v (.int .u64)) .nil))⟩
def bits_Mul64.outs : List Spec := [⟨51, 0, [], [4, 5], (.cons (.v (.int .u64)) (.cons (.v (.int .u64)) .nil))⟩]
noncomputable def bits_Mul64.c : Callee' := ⟨197, mkFits bits_Mul64.ins bits_Mul64.outs, mkFun bits_Mul64.ins bits_Mul64.outs bits_Mul64, mkFun_nat _ _ _⟩
theorem bits_Mul64.quiet : FunQuiet bits_Mul64.c.F := mkFun_quiet rfl rfl
noncomputable def bits_Mul64.ann : Ann :=
  (.seq (.reg []) (.seq (.reg []) (.seq (.reg []) (.seq (.reg []) (.seq (.reg []) (.seq (.reg []) (.seq (.reg []) (.seq (.reg []) (.seq (.reg []) (.seq (.reg []) (.seq (.reg []) (.seq (.reg []) .std))))))))))))
noncomputable def bits_Mul64.code : Code := match Tryz.f197.body with | some c => c | none => .skip
theorem bits_Mul64.eq : absFn tt 51 bits_Mul64.ins bits_Mul64.outs bits_Mul64.code bits_Mul64.ann = bits_Mul64 := by
  funext a
  kernel_rfl
theorem bits_Mul64.ok : bits_Mul64.ann.ok Tryz.prog 0 51 :=
  ann_ok (by kernel_rfl) (by kernel_rfl) (show ∀ c ∈ ([] : List Callee'), c.ok Tryz.prog from cs_nil)
    (show ∀ c ∈ ([] : List Callee'), FunQuiet c.F from cs_nil)
theorem bits_Mul64.sound : bits_Mul64.c.ok Tryz.prog := by
  refine ⟨?_, Tryz.f197, bits_Mul64.code, Tryz.func197, rfl, by decide⟩
  have h := fn_sound tt_ok mix_ok (x := bits_Mul64.ann) (ins := bits_Mul64.ins) (outs := bits_Mul64.outs) (N := 51) Tryz.func197 (c := bits_Mul64.code) rfl rfl (by kernel_rfl) (by kernel_rfl) bits_Mul64.ok (by decide)
  rw [bits_Mul64.eq] at h
  exact h

/-! ### math/bits.Mul: function 163 -/
noncomputable def bits_Mul : (Int × Int) → Option (Int × Int) := fun (x0, y1) =>
  (bits_Mul64 (x0, y1)).bind fun (r25, r25_2) =>
    some (((r25, r25_2)))

def bits_Mul.ins : Spec := ⟨30, 0, [], [0, 1], (.cons (.v (.int .u64)) (.cons (.v (.int .u64)) .nil))⟩
def bits_Mul.outs : List Spec := [⟨30, 0, [], [4, 5], (.cons (.v (.int .u64)) (.cons (.v (.int .u64)) .nil))⟩]
noncomputable def bits_Mul.c : Callee' := ⟨163, mkFits bits_Mul.ins bits_Mul.outs, mkFun bits_Mul.ins bits_Mul.outs bits_Mul, mkFun_nat _ _ _⟩
theorem bits_Mul.quiet : FunQuiet bits_Mul.c.F := mkFun_quiet rfl rfl
noncomputable def bits_Mul.ann : Ann :=
  (.seq (.reg []) (.seq (.cond (.seq (.reg []) (.seq (.reg []) .std)) .std) (.seq (.reg [.std, .std, .callq [bits_Mul64.c]]) (.seq (.reg []) .std))))
noncomputable def bits_Mul.code : Code := match Tryz.f163.body with | some c => c | none => .skip
theorem bits_Mul.eq : absFn tt 30 bits_Mul.ins bits_Mul.outs bits_Mul.code bits_Mul.ann = bits_Mul := by
  funext a
  kernel_rfl
theorem bits_Mul.ok : bits_Mul.ann.ok Tryz.prog 0 30 :=
  ann_ok (by kernel_rfl) (by kernel_rfl) (show ∀ c ∈ ([bits_Mul64.c] : List Callee'), c.ok Tryz.prog from cs_cons bits_Mul64.sound cs_nil)
    (show ∀ c ∈ ([bits_Mul64.c] : List Callee'), FunQuiet c.F from cs_cons bits_Mul64.quiet cs_nil)
theorem bits_Mul.sound : bits_Mul.c.ok Tryz.prog := by
  refine ⟨?_, Tryz.f163, bits_Mul.code, Tryz.func163, rfl, by decide⟩
  have h := fn_sound tt_ok mix_ok (x := bits_Mul.ann) (ins := bits_Mul.ins) (outs := bits_Mul.outs) (N := 30) Tryz.func163 (c := bits_Mul.code) rfl rfl (by kernel_rfl) (by kernel_rfl) bits_Mul.ok (by decide)
  rw [bits_Mul.eq] at h
  exact h

/-! ### slices.Repeat[[]int,int]: function 122 -/
noncomputable def slices_Repeat_int_int.l1 : (List Int × Int) → Option ((List Int × Int) ⊕ (List Int)) := fun (newslice7, n8) =>
  if decide (n8 < (newslice7.length : Int)) = true then
    if 0 ≤ n8 ∧ n8 ≤ (newslice7.length : Int) then
      if 0 ≤ n8 ∧ n8 ≤ (newslice7.length : Int) then
        some (.inl ((copyRow newslice7 (((newslice7).drop 0).take ((n8 - 0).toNat)) n8.toNat (((newslice7.length : Int) - n8).toNat), IntKind.i64.wrap (n8 + ((min (((newslice7.length : Int) - n8).toNat) ((((newslice7).drop 0).take ((n8 - 0).toNat)).length) : Nat) : Int)))))
      else none
    else none
  else
    some (.inr newslice7)

noncomputable def slices_Repeat_int_int : (List Int × Int) → Option (List Int) := fun (x0, count1) =>
  if decide (count1 < 0) = true then none else
  (bits_Mul (IntKind.u64.wrap ((x0.length : Int)), IntKind.u64.wrap (count1))).bind fun (r18, r18_2) =>
    if decide (r18 > 0) = false then
      if decide (r18_2 > 9223372036854775807) = true then none else
      if 0 ≤ IntKind.i64.wrap (r18_2) ∧ IntKind.i64.wrap (r18_2) ≤ IntKind.i64.wrap (r18_2) ∧ IntKind.i64.wrap (r18_2) * (8 : Nat) ≤ 140737488355328 ∧ IntKind.i64.wrap (r18_2) ≤ 9223372036854775807 then
        (loopO slices_Repeat_int_int.l1 ((copyRow (List.replicate (IntKind.i64.wrap (r18_2)).toNat (0 : Int)) x0 0 ((List.replicate (IntKind.i64.wrap (r18_2)).toNat (0 : Int)).length), ((min ((List.replicate (IntKind.i64.wrap (r18_2)).toNat (0 : Int)).length) x0.length : Nat) : Int)))).bind fun newslice7 =>
          some newslice7
      else none
    else none

def slices_Repeat_int_int.ins : Spec := ⟨48, 0, [], [0, 1], (.cons (.v (.sl I)) (.cons (.v I) .nil))⟩
def slices_Repeat_int_int.outs : List Spec := [⟨48, 0, [], [4], (.cons (.v (.sl I)) .nil)⟩]
noncomputable def slices_Repeat_int_int.c : Callee' := ⟨122, mkFits slices_Repeat_int_int.ins slices_Repeat_int_int.outs, mkFun slices_Repeat_int_int.ins slices_Repeat_int_int.outs slices_Repeat_int_int, mkFun_nat _ _ _⟩
theorem slices_Repeat_int_int.quiet : FunQuiet slices_Repeat_int_int.c.F := mkFun_quiet rfl rfl
noncomputable def slices_Repeat_int_int.ann : Ann :=
  (.seq (.reg []) (.seq (.seq (.reg []) (.cond (.reg []) .std)) (.seq (.reg [.std, .std, .std, .std, .std, .callq [bits_Mul.c]]) (.seq (.seq (.reg []) (.cond (.reg []) .std)) (.seq (.reg [.std, .std, .obj I]) (.seq (.reg [.std, .std, .obj I]) (.seq (.block (.loop ⟨48, 0, [.arr I], [7, 8], (.cons (.ref 0) (.cons (.v I) .nil))⟩ [(.exit 0, ⟨48, 0, [.arr I], [7], (.cons (.ref 0) .nil)⟩)]
  (.seq (.seq (.reg []) (.cond .std .std)) (.block (.drw [.std, .std, .std, .std, .std, .std, .std, .obj I]))))) (.seq (.reg []) .std))))))))
noncomputable def slices_Repeat_int_int.code : Code := match Tryz.f122.body with | some c => c | none => .skip
theorem slices_Repeat_int_int.eq : absFn tt 48 slices_Repeat_int_int.ins slices_Repeat_int_int.outs slices_Repeat_int_int.code slices_Repeat_int_int.ann = slices_Repeat_int_int := by
  funext a
  kernel_rfl
theorem slices_Repeat_int_int.ok : slices_Repeat_int_int.ann.ok Tryz.prog 0 48 :=
  ann_ok (by kernel_rfl) (by kernel_rfl) (show ∀ c ∈ ([bits_Mul.c] : List Callee'), c.ok Tryz.prog from cs_cons bits_Mul.sound cs_nil)
    (show ∀ c ∈ ([bits_Mul.c] : List Callee'), FunQuiet c.F from cs_cons bits_Mul.quiet cs_nil)
theorem slices_Repeat_int_int.sound : slices_Repeat_int_int.c.ok Tryz.prog := by
  refine ⟨?_, Tryz.f122, slices_Repeat_int_int.code, Tryz.func122, rfl, by decide⟩
  have h := fn_sound tt_ok mix_ok (x := slices_Repeat_int_int.ann) (ins := slices_Repeat_int_int.ins) (outs := slices_Repeat_int_int.outs) (N := 48) Tryz.func122 (c := slices_Repeat_int_int.code) rfl rfl (by kernel_rfl) (by kernel_rfl) slices_Repeat_int_int.ok (by decide)
  rw [slices_Repeat_int_int.eq] at h
  exact h

/-! ### wainwright/mould.Size: function 125 -/
noncomputable def mould_Size.l1 : (Int × List Int × Int × Int) → Option ((Int × List Int × Int × Int) ⊕ (Int ⊕ Int)) := fun (n3, t6, t7, t8) =>
  if decide (t8 < t7) = true then
    if 0 ≤ t8 ∧ t8 < (t6.length : Int) then
      if (t6.getD t8.toNat 0 == 1) = true then
        some (.inl ((IntKind.i64.wrap (n3 + (t6.getD t8.toNat 0)), t6, t7, IntKind.i64.wrap (t8 + 1))))
      else
        if (t6.getD t8.toNat 0 == 2) = true then
          some (.inl ((IntKind.i64.wrap (n3 + (t6.getD t8.toNat 0)), t6, t7, IntKind.i64.wrap (t8 + 1))))
        else
          if (t6.getD t8.toNat 0 == 4) = true then
            some (.inl ((IntKind.i64.wrap (n3 + (t6.getD t8.toNat 0)), t6, t7, IntKind.i64.wrap (t8 + 1))))
          else
            some (.inr (.inr (-1)))
    else none
  else
    some (.inr (.inl n3))

noncomputable def mould_Size : List Int → Option (Int) := fun widths0 =>
  (loopO mould_Size.l1 ((0, widths0, (widths0.length : Int), 0))).bind fun d => match d with
  | .inl n3 =>
    some n3
  | .inr t2 =>
    some t2

def mould_Size.ins : Spec := ⟨22, 0, [], [0], (.cons (.v (.sl I)) .nil)⟩
def mould_Size.outs : List Spec := [⟨22, 0, [], [2], (.cons (.v I) .nil)⟩]
noncomputable def mould_Size.c : Callee' := ⟨125, mkFits mould_Size.ins mould_Size.outs, mkFun mould_Size.ins mould_Size.outs mould_Size, mkFun_nat _ _ _⟩
theorem mould_Size.quiet : FunQuiet mould_Size.c.F := mkFun_quiet rfl rfl
noncomputable def mould_Size.ann : Ann :=
  (.seq (.reg []) (.seq (.reg []) (.seq (.seq (.reg []) (.block (.loop ⟨22, 0, [], [3, 6, 7, 8], (.cons (.v I) (.cons (.v (.sl I)) (.cons (.v I) (.cons (.v I) .nil))))⟩ [(.exit 0, ⟨22, 0, [], [3], (.cons (.v I) .nil)⟩), (.ret, ⟨22, 0, [], [2], (.cons (.v I) .nil)⟩)]
  (.seq (.reg []) (.seq (.cond .std .std) (.seq (.block (.seq (.reg []) (.seq (.reg []) (.block (.seq (.seq (.reg []) (.cond .std (.seq (.reg []) (.cond .std (.reg []))))) (.cond (.reg []) (.seq (.reg []) .std))))))) (.reg []))))))) (.seq (.reg []) .std))))
noncomputable def mould_Size.code : Code := match Tryz.f125.body with | some c => c | none => .skip
theorem mould_Size.eq : absFn tt 22 mould_Size.ins mould_Size.outs mould_Size.code mould_Size.ann = mould_Size := by
  funext a
  kernel_rfl
theorem mould_Size.ok : mould_Size.ann.ok Tryz.prog 0 22 :=
  ann_ok (by kernel_rfl) (by kernel_rfl) (show ∀ c ∈ ([] : List Callee'), c.ok Tryz.prog from cs_nil)
    (show ∀ c ∈ ([] : List Callee'), FunQuiet c.F from cs_nil)
theorem mould_Size.sound : mould_Size.c.ok Tryz.prog := by
  refine ⟨?_, Tryz.f125, mould_Size.code, Tryz.func125, rfl, by decide⟩
  have h := fn_sound tt_ok mix_ok (x := mould_Size.ann) (ins := mould_Size.ins) (outs := mould_Size.outs) (N := 22) Tryz.func125 (c := mould_Size.code) rfl rfl (by kernel_rfl) (by kernel_rfl) mould_Size.ok (by decide)
  rw [mould_Size.eq] at h
  exact h

/-! ### wainwright/mould.Read: function 123 -/
noncomputable def mould_Read.l2 : (List Int × List UInt8 × Int × Int × List Int × Int × Int × List Int × Int × Int) → Option ((List Int × List UInt8 × Int × Int × List Int × Int × Int × List Int × Int × Int) ⊕ (List Int × List UInt8 × Int × List Int × Int × Int)) := fun (values7, s1, i8, w9, t25, t26, t27, t35, t36, t37) =>
  if decide (t37 < t36) = true then
    if 0 ≤ t37 ∧ t37 < (t35.length : Int) then
      if 0 ≤ i8 ∧ i8 < (values7.length : Int) then
        if 0 ≤ IntKind.i64.wrap (8 * t37) then
          if 0 ≤ i8 ∧ i8 < (values7.length : Int) then
            some (.inl ((values7.set i8.toNat (bitsOp .or .i64 (values7.getD i8.toNat 0) (IntKind.i64.wrap (IntKind.i64.wrap (t35.getD t37.toNat 0) * 2 ^ (min (IntKind.i64.wrap (8 * t37)).toNat 64)))), s1, i8, w9, t25, t26, t27, t35, t36, IntKind.i64.wrap (t37 + 1))))
          else none
        else none
      else none
    else none
  else
    some (.inr (((values7, s1, w9, t25, t26, t27))))

noncomputable def mould_Read.l1 : (List Int × List UInt8 × List Int × Int × Int) → Option ((List Int × List UInt8 × List Int × Int × Int) ⊕ (List Int)) := fun (values7, s1, t25, t26, t27) =>
  if decide (t27 < t26) = true then
    if 0 ≤ t27 ∧ t27 < (t25.length : Int) then
      if 0 ≤ t25.getD t27.toNat 0 ∧ t25.getD t27.toNat 0 ≤ (s1.length : Int) then
        (loopO mould_Read.l2 ((values7, s1, t27, t25.getD t27.toNat 0, t25, t26, t27, (s1.take (t25.getD t27.toNat 0).toNat).map fun b => (b.toNat : Int), (((s1.take (t25.getD t27.toNat 0).toNat).map fun b => (b.toNat : Int)).length : Int), 0))).bind fun (values7, s1, w9, t25, t26, t27) =>
          if 0 ≤ w9 ∧ w9 ≤ (s1.length : Int) then
            some (.inl ((values7, s1.drop w9.toNat, t25, t26, IntKind.i64.wrap (t27 + 1))))
          else none
      else none
    else none
  else
    some (.inr values7)

noncomputable def mould_Read : (List Int × List UInt8) → Option (List Int × Int) := fun (widths0, s1) =>
  (mould_Size widths0).bind fun r13 =>
    if decide (r13 < 0) = true then
      some (((([] : List Int), 1)))
    else
      if decide ((s1.length : Int) < r13) = true then
        some (((([] : List Int), 2)))
      else
        if 0 ≤ (widths0.length : Int) ∧ (widths0.length : Int) ≤ (widths0.length : Int) ∧ (widths0.length : Int) * (8 : Nat) ≤ 140737488355328 ∧ (widths0.length : Int) ≤ 9223372036854775807 then
          (loopO mould_Read.l1 ((List.replicate ((widths0.length : Int)).toNat (0 : Int), s1, widths0, (widths0.length : Int), 0))).bind fun values7 =>
            some (((values7, 0)))
        else none

def mould_Read.ins : Spec := ⟨59, 0, [], [0, 1], (.cons (.v (.sl I)) (.cons (.v .str) .nil))⟩
def mould_Read.outs : List Spec := [⟨59, 0, [], [4, 5], (.cons (.v (.sl I)) (.cons (.v I) .nil))⟩]
noncomputable def mould_Read.c : Callee' := ⟨123, mkFits mould_Read.ins mould_Read.outs, mkFun mould_Read.ins mould_Read.outs mould_Read, mkFun_nat _ _ _⟩
theorem mould_Read.quiet : FunQuiet mould_Read.c.F := mkFun_quiet rfl rfl
noncomputable def mould_Read.ann : Ann :=
  (.seq (.reg []) (.seq (.reg [.std, .callq [mould_Size.c]]) (.seq (.block (.seq (.reg []) (.cond (.seq (.reg []) .std) (.seq (.reg []) (.cond (.seq (.reg []) .std) .std))))) (.seq (.reg [.std, .std, .obj I]) (.seq (.seq (.reg []) (.block (.loop ⟨59, 0, [.arr I], [1, 7, 25, 26, 27], (.cons (.v .str) (.cons (.ref 0) (.cons (.v (.sl I)) (.cons (.v I) (.cons (.v I) .nil)))))⟩ [(.exit 1, ⟨59, 0, [.arr I], [7], (.cons (.ref 0) .nil)⟩)]
  (.seq (.reg []) (.seq (.cond .std .std) (.seq (.block (.seq (.reg []) (.seq (.seq (.reg [.std, .std, .std, .inl (.int .u8)]) (.block (.loop ⟨59, 0, [.arr I], [1, 7, 8, 9, 25, 26, 27, 35, 36, 37], (.cons (.v .str) (.cons (.ref 0) (.cons (.v I) (.cons (.v I) (.cons (.v (.sl I)) (.cons (.v I) (.cons (.v I) (.cons (.v (.sl (.int .u8))) (.cons (.v I) (.cons (.v I) .nil))))))))))⟩ [(.exit 3, ⟨59, 0, [.arr I], [1, 7, 9, 25, 26, 27], (.cons (.v .str) (.cons (.ref 0) (.cons (.v I) (.cons (.v (.sl I)) (.cons (.v I) (.cons (.v I) .nil))))))⟩)]
  (.seq (.reg []) (.seq (.cond .std .std) (.seq (.block (.seq (.reg []) (.drw [.std, .std, .std, .std, .std, .inl (.int .u8)]))) (.reg []))))))) (.reg [])))) (.reg []))))))) (.seq (.reg []) .std))))))
noncomputable def mould_Read.code : Code := match Tryz.f123.body with | some c => c | none => .skip
theorem mould_Read.eq : absFn tt 59 mould_Read.ins mould_Read.outs mould_Read.code mould_Read.ann = mould_Read := by
  funext a
  kernel_rfl
theorem mould_Read.ok : mould_Read.ann.ok Tryz.prog 0 59 :=
  ann_ok (by kernel_rfl) (by kernel_rfl) (show ∀ c ∈ ([mould_Size.c] : List Callee'), c.ok Tryz.prog from cs_cons mould_Size.sound cs_nil)
    (show ∀ c ∈ ([mould_Size.c] : List Callee'), FunQuiet c.F from cs_cons mould_Size.quiet cs_nil)
theorem mould_Read.sound : mould_Read.c.ok Tryz.prog := by
  refine ⟨?_, Tryz.f123, mould_Read.code, Tryz.func123, rfl, by decide⟩
  have h := fn_sound tt_ok mix_ok (x := mould_Read.ann) (ins := mould_Read.ins) (outs := mould_Read.outs) (N := 59) Tryz.func123 (c := mould_Read.code) rfl rfl (by kernel_rfl) (by kernel_rfl) mould_Read.ok (by decide)
  rw [mould_Read.eq] at h
  exact h

/-! ### strings.trimRightByte: function 165 -/
noncomputable def strings_trimRightByte.l1 : (List UInt8 × Int) → Option ((List UInt8 × Int) ⊕ (List UInt8)) := fun (s0, c1) =>
  if decide ((s0.length : Int) > 0) = true then
    if 0 ≤ IntKind.i64.wrap ((s0.length : Int) - 1) ∧ IntKind.i64.wrap ((s0.length : Int) - 1) < (s0.length : Int) then
      if (((s0.getD ((IntKind.i64.wrap ((s0.length : Int) - 1)).toNat) 0).toNat : Int) == c1) = true then
        if 0 ≤ IntKind.i64.wrap ((s0.length : Int) - 1) ∧ IntKind.i64.wrap ((s0.length : Int) - 1) ≤ (s0.length : Int) then
          some (.inl ((s0.take (IntKind.i64.wrap ((s0.length : Int) - 1)).toNat, c1)))
        else none
      else
        some (.inr s0)
    else none
  else
    some (.inr s0)

noncomputable def strings_trimRightByte : (List UInt8 × Int) → Option (List UInt8) := fun (s0, c1) =>
  (loopO strings_trimRightByte.l1 ((s0, c1))).bind fun s0 =>
    some s0

def strings_trimRightByte.ins : Spec := ⟨23, 0, [], [0, 1], (.cons (.v .str) (.cons (.v (.int .u8)) .nil))⟩
def strings_trimRightByte.outs : List Spec := [⟨23, 0, [], [4], (.cons (.v .str) .nil)⟩]
noncomputable def strings_trimRightByte.c : Callee' := ⟨165, mkFits strings_trimRightByte.ins strings_trimRightByte.outs, mkFun strings_trimRightByte.ins strings_trimRightByte.outs strings_trimRightByte, mkFun_nat _ _ _⟩
theorem strings_trimRightByte.quiet : FunQuiet strings_trimRightByte.c.F := mkFun_quiet rfl rfl
noncomputable def strings_trimRightByte.ann : Ann :=
  (.seq (.reg []) (.seq (.block (.loop ⟨23, 0, [], [0, 1], (.cons (.v .str) (.cons (.v (.int .u8)) .nil))⟩ [(.exit 0, ⟨23, 0, [], [0], (.cons (.v .str) .nil)⟩)]
  (.seq (.seq (.reg []) (.cond .std .std)) (.block (.reg []))))) (.seq (.reg []) .std)))
noncomputable def strings_trimRightByte.code : Code := match Tryz.f165.body with | some c => c | none => .skip
theorem strings_trimRightByte.eq : absFn tt 23 strings_trimRightByte.ins strings_trimRightByte.outs strings_trimRightByte.code strings_trimRightByte.ann = strings_trimRightByte := by
  funext a
  kernel_rfl
theorem strings_trimRightByte.ok : strings_trimRightByte.ann.ok Tryz.prog 0 23 :=
  ann_ok (by kernel_rfl) (by kernel_rfl) (show ∀ c ∈ ([] : List Callee'), c.ok Tryz.prog from cs_nil)
    (show ∀ c ∈ ([] : List Callee'), FunQuiet c.F from cs_nil)
theorem strings_trimRightByte.sound : strings_trimRightByte.c.ok Tryz.prog := by
  refine ⟨?_, Tryz.f165, strings_trimRightByte.code, Tryz.func165, rfl, by decide⟩
  have h := fn_sound tt_ok mix_ok (x := strings_trimRightByte.ann) (ins := strings_trimRightByte.ins) (outs := strings_trimRightByte.outs) (N := 23) Tryz.func165 (c := strings_trimRightByte.code) rfl rfl (by kernel_rfl) (by kernel_rfl) strings_trimRightByte.ok (by decide)
  rw [strings_trimRightByte.eq] at h
  exact h

/-! ### strings.trimLeftByte: function 164 -/
noncomputable def strings_trimLeftByte.l1 : (List UInt8 × Int) → Option ((List UInt8 × Int) ⊕ (List UInt8)) := fun (s0, c1) =>
  if decide ((s0.length : Int) > 0) = true then
    if 0 ≤ (0 : Int) ∧ (0 : Int) < (s0.length : Int) then
      if (((s0.getD 0 0).toNat : Int) == c1) = true then
        if 0 ≤ (1 : Int) ∧ (1 : Int) ≤ (s0.length : Int) then
          some (.inl ((s0.drop 1, c1)))
        else none
      else
        some (.inr s0)
    else none
  else
    some (.inr s0)

noncomputable def strings_trimLeftByte : (List UInt8 × Int) → Option (List UInt8) := fun (s0, c1) =>
  (loopO strings_trimLeftByte.l1 ((s0, c1))).bind fun s0 =>
    some s0

def strings_trimLeftByte.ins : Spec := ⟨17, 0, [], [0, 1], (.cons (.v .str) (.cons (.v (.int .u8)) .nil))⟩
def strings_trimLeftByte.outs : List Spec := [⟨17, 0, [], [4], (.cons (.v .str) .nil)⟩]
noncomputable def strings_trimLeftByte.c : Callee' := ⟨164, mkFits strings_trimLeftByte.ins strings_trimLeftByte.outs, mkFun strings_trimLeftByte.ins strings_trimLeftByte.outs strings_trimLeftByte, mkFun_nat _ _ _⟩
theorem strings_trimLeftByte.quiet : FunQuiet strings_trimLeftByte.c.F := mkFun_quiet rfl rfl
noncomputable def strings_trimLeftByte.ann : Ann :=
  (.seq (.reg []) (.seq (.block (.loop ⟨17, 0, [], [0, 1], (.cons (.v .str) (.cons (.v (.int .u8)) .nil))⟩ [(.exit 0, ⟨17, 0, [], [0], (.cons (.v .str) .nil)⟩)]
  (.seq (.seq (.reg []) (.cond .std .std)) (.block (.reg []))))) (.seq (.reg []) .std)))
noncomputable def strings_trimLeftByte.code : Code := match Tryz.f164.body with | some c => c | none => .skip
theorem strings_trimLeftByte.eq : absFn tt 17 strings_trimLeftByte.ins strings_trimLeftByte.outs strings_trimLeftByte.code strings_trimLeftByte.ann = strings_trimLeftByte := by
  funext a
  kernel_rfl
theorem strings_trimLeftByte.ok : strings_trimLeftByte.ann.ok Tryz.prog 0 17 :=
  ann_ok (by kernel_rfl) (by kernel_rfl) (show ∀ c ∈ ([] : List Callee'), c.ok Tryz.prog from cs_nil)
    (show ∀ c ∈ ([] : List Callee'), FunQuiet c.F from cs_nil)
theorem strings_trimLeftByte.sound : strings_trimLeftByte.c.ok Tryz.prog := by
  refine ⟨?_, Tryz.f164, strings_trimLeftByte.code, Tryz.func164, rfl, by decide⟩
  have h := fn_sound tt_ok mix_ok (x := strings_trimLeftByte.ann) (ins := strings_trimLeftByte.ins) (outs := strings_trimLeftByte.outs) (N := 17) Tryz.func164 (c := strings_trimLeftByte.code) rfl rfl (by kernel_rfl) (by kernel_rfl) strings_trimLeftByte.ok (by decide)
  rw [strings_trimLeftByte.eq] at h
  exact h

/-! ### strings.Trim: function 124 -/
noncomputable def strings_Trim : (List UInt8 × List UInt8) → Option (List UInt8) := fun (s0, cutset1) =>
  if (s0 == []) = false then
    if (cutset1 == []) = true then
      some s0
    else
      ((
        if ((cutset1.length : Int) == 1) = true then
          if 0 ≤ (0 : Int) ∧ (0 : Int) < (cutset1.length : Int) then
            some (((s0, cutset1, decide (((cutset1.getD 0 0).toNat : Int) < 128))))
          else none
        else
          some (((s0, cutset1, false)))) : Option (List UInt8 × List UInt8 × Bool)).bind fun (s0, cutset1, t21) =>
        if t21 = true then
          if 0 ≤ (0 : Int) ∧ (0 : Int) < (cutset1.length : Int) then
            (strings_trimRightByte (s0, ((cutset1.getD 0 0).toNat : Int))).bind fun r25 =>
              if 0 ≤ (0 : Int) ∧ (0 : Int) < (cutset1.length : Int) then
                (strings_trimLeftByte (r25, ((cutset1.getD 0 0).toNat : Int))).bind fun r28 =>
                  some r28
              else none
          else none
        else none
  else
    some s0

def strings_Trim.ins : Spec := ⟨43, 0, [], [0, 1], (.cons (.v .str) (.cons (.v .str) .nil))⟩
def strings_Trim.outs : List Spec := [⟨43, 0, [], [4], (.cons (.v .str) .nil)⟩]
noncomputable def strings_Trim.c : Callee' := ⟨124, mkFits strings_Trim.ins strings_Trim.outs, mkFun strings_Trim.ins strings_Trim.outs strings_Trim, mkFun_nat _ _ _⟩
theorem strings_Trim.quiet : FunQuiet strings_Trim.c.F := mkFun_quiet rfl rfl
noncomputable def strings_Trim.ann : Ann :=
  (.seq (.reg []) (.seq (.seq (.reg []) (.cond (.seq (.reg []) .std) .std)) (.seq (.join [(.norm, ⟨43, 0, [], [0, 1, 21], (.cons (.v .str) (.cons (.v .str) (.cons (.v .bool) .nil)))⟩)]
  (.reg []) (.cond (.seq (.drw [.std, .std, .std, .callq [strings_trimRightByte.c], .std, .std, .callq [strings_trimLeftByte.c]]) .std) .std)) (.seq (.seq (.reg []) (.seq (.reg []) (.cond (.seq (.reg []) .std) .std))) (.seq (.reg []) .std)))))
noncomputable def strings_Trim.code : Code := match Tryz.f124.body with | some c => c | none => .skip
theorem strings_Trim.eq : absFn tt 43 strings_Trim.ins strings_Trim.outs strings_Trim.code strings_Trim.ann = strings_Trim := by
  funext a
  kernel_rfl
theorem strings_Trim.ok : strings_Trim.ann.ok Tryz.prog 0 43 :=
  ann_ok (by kernel_rfl) (by kernel_rfl) (show ∀ c ∈ ([strings_trimRightByte.c, strings_trimLeftByte.c] : List Callee'), c.ok Tryz.prog from cs_cons strings_trimRightByte.sound (cs_cons strings_trimLeftByte.sound cs_nil))
    (show ∀ c ∈ ([strings_trimRightByte.c, strings_trimLeftByte.c] : List Callee'), FunQuiet c.F from cs_cons strings_trimRightByte.quiet (cs_cons strings_trimLeftByte.quiet cs_nil))
theorem strings_Trim.sound : strings_Trim.c.ok Tryz.prog := by
  refine ⟨?_, Tryz.f124, strings_Trim.code, Tryz.func124, rfl, by decide⟩
  have h := fn_sound tt_ok mix_ok (x := strings_Trim.ann) (ins := strings_Trim.ins) (outs := strings_Trim.outs) (N := 43) Tryz.func124 (c := strings_Trim.code) rfl rfl (by kernel_rfl) (by kernel_rfl) strings_Trim.ok (by decide)
  rw [strings_Trim.eq] at h
  exact h

/-! ### (*wainwright/log.Log).free: function 171 -/
noncomputable def log_Log_free : (((List (List UInt8) × (List (Int × List UInt8)) × Int × Int) × Bool × Int) × Int) → Option (Bool) := fun (l0, i1) =>
  if decide (i1 ≥ 0) = true then
    (slab_Slab_Size l0.1).bind fun r13 =>
      if decide (i1 < r13) = true then
        if decide (i1 < 1) = false then
          some ((decide (i1 ≥ 42)))
        else
          some true
      else
        some false
  else
    some false

def log_Log_free.ins : Spec := ⟨24, 0, [], [0, 1], (.cons (.v (.ptr (.pair (.ptr (.pair (.sl .str) (.pair (.map I .str) (.pair I I)))) (.pair .bool I)))) (.cons (.v I) .nil))⟩
def log_Log_free.outs : List Spec := [⟨24, 0, [], [4], (.cons (.v .bool) .nil)⟩]
noncomputable def log_Log_free.c : Callee' := ⟨171, mkFits log_Log_free.ins log_Log_free.outs, mkFun log_Log_free.ins log_Log_free.outs log_Log_free, mkFun_nat _ _ _⟩
theorem log_Log_free.quiet : FunQuiet log_Log_free.c.F := mkFun_quiet rfl rfl
noncomputable def log_Log_free.ann : Ann :=
  (.seq (.reg []) (.seq (.reg [.std, .std, .std, .std, .std, .std, .std, .std, .callq [slab_Slab_Size.c]]) .std))
noncomputable def log_Log_free.code : Code := match Tryz.f171.body with | some c => c | none => .skip
theorem log_Log_free.eq : absFn tt 24 log_Log_free.ins log_Log_free.outs log_Log_free.code log_Log_free.ann = log_Log_free := by
  funext a
  kernel_rfl
theorem log_Log_free.ok : log_Log_free.ann.ok Tryz.prog 0 24 :=
  ann_ok (by kernel_rfl) (by kernel_rfl) (show ∀ c ∈ ([slab_Slab_Size.c] : List Callee'), c.ok Tryz.prog from cs_cons slab_Slab_Size.sound cs_nil)
    (show ∀ c ∈ ([slab_Slab_Size.c] : List Callee'), FunQuiet c.F from cs_cons slab_Slab_Size.quiet cs_nil)
theorem log_Log_free.sound : log_Log_free.c.ok Tryz.prog := by
  refine ⟨?_, Tryz.f171, log_Log_free.code, Tryz.func171, rfl, by decide⟩
  have h := fn_sound tt_ok mix_ok (x := log_Log_free.ann) (ins := log_Log_free.ins) (outs := log_Log_free.outs) (N := 24) Tryz.func171 (c := log_Log_free.code) rfl rfl (by kernel_rfl) (by kernel_rfl) log_Log_free.ok (by decide)
  rw [log_Log_free.eq] at h
  exact h

/-! ### (*wainwright/log.Log).right: function 126 -/
noncomputable def log_Log_right.l1 : ((List (Int × Int)) × ((List (List UInt8) × (List (Int × List UInt8)) × Int × Int) × Bool × Int) × (List (Int × List UInt8)) × Int × Int) → Option (((List (Int × Int)) × ((List (List UInt8) × (List (Int × List UInt8)) × Int × Int) × Bool × Int) × (List (Int × List UInt8)) × Int × Int) ⊕ (Unit ⊕ Bool)) := fun (seen5, l0, t9, t10, t11) =>
  if decide (t11 < t10) = true then
    if 0 ≤ t11 ∧ t11 < (t9.length : Int) then
      (log_Log_free (l0, (t9.getD t11.toNat (0, [])).1)).bind fun r23 =>
        if (!r23) = false then
          if ((((t9.getD t11.toNat (0, [])).2).length : Int) != 128) = false then
            if decide (((mget (K := I) (V := I) (mput (K := I) (V := I) seen5 ((t9.getD t11.toNat (0, [])).1) (IntKind.i64.wrap (((mget (K := I) (V := I) seen5 ((t9.getD t11.toNat (0, [])).1)).getD 0) + 1))) ((t9.getD t11.toNat (0, [])).1)).getD 0) > 1) = true then
              some (.inr (.inr false))
            else
              some (.inl ((mput (K := I) (V := I) seen5 ((t9.getD t11.toNat (0, [])).1) (IntKind.i64.wrap (((mget (K := I) (V := I) seen5 ((t9.getD t11.toNat (0, [])).1)).getD 0) + 1)), l0, t9, t10, IntKind.i64.wrap (t11 + 1))))
          else
            some (.inr (.inr false))
        else
          some (.inr (.inr false))
    else none
  else
    some (.inr (.inl ()))

noncomputable def log_Log_right : (((List (List UInt8) × (List (Int × List UInt8)) × Int × Int) × Bool × Int) × List (Int × List UInt8)) → Option (Bool) := fun (l0, c1) =>
  (loopO log_Log_right.l1 ((([] : List (Int × Int)), l0, c1, (c1.length : Int), 0))).bind fun d => match d with
  | .inl _ =>
    some true
  | .inr t4 =>
    some t4

def log_Log_right.ins : Spec := ⟨39, 0, [], [0, 1], (.cons (.v (.ptr (.pair (.ptr (.pair (.sl .str) (.pair (.map I .str) (.pair I I)))) (.pair .bool I)))) (.cons (.v (.sl (.st (.pair I .str)))) .nil))⟩
def log_Log_right.outs : List Spec := [⟨39, 0, [], [4], (.cons (.v .bool) .nil)⟩]
noncomputable def log_Log_right.c : Callee' := ⟨126, mkFits log_Log_right.ins log_Log_right.outs, mkFun log_Log_right.ins log_Log_right.outs log_Log_right, mkFun_nat _ _ _⟩
theorem log_Log_right.quiet : FunQuiet log_Log_right.c.F := mkFun_quiet rfl rfl
noncomputable def log_Log_right.ann : Ann :=
  (.seq (.reg []) (.seq (.reg [.mp I I]) (.seq (.seq (.reg []) (.block (.loop ⟨39, 0, [.map I I], [0, 5, 9, 10, 11], (.cons (.v (.ptr (.pair (.ptr (.pair (.sl .str) (.pair (.map I .str) (.pair I I)))) (.pair .bool I)))) (.cons (.ref 0) (.cons (.v (.sl (.st (.pair I .str)))) (.cons (.v I) (.cons (.v I) .nil)))))⟩ [(.exit 0, ⟨39, 0, [], [], .nil⟩), (.ret, ⟨39, 0, [], [4], (.cons (.v .bool) .nil)⟩)]
  (.seq (.reg []) (.seq (.cond .std .std) (.seq (.block (.seq (.reg []) (.seq (.reg []) (.seq (.reg [.std, .std, .std, .callq [log_Log_free.c]]) (.cond (.seq (.reg []) .std) .std))))) (.reg []))))))) (.seq (.reg []) .std))))
noncomputable def log_Log_right.code : Code := match Tryz.f126.body with | some c => c | none => .skip
theorem log_Log_right.eq : absFn tt 39 log_Log_right.ins log_Log_right.outs log_Log_right.code log_Log_right.ann = log_Log_right := by
  funext a
  kernel_rfl
theorem log_Log_right.ok : log_Log_right.ann.ok Tryz.prog 0 39 :=
  ann_ok (by kernel_rfl) (by kernel_rfl) (show ∀ c ∈ ([log_Log_free.c] : List Callee'), c.ok Tryz.prog from cs_cons log_Log_free.sound cs_nil)
    (show ∀ c ∈ ([log_Log_free.c] : List Callee'), FunQuiet c.F from cs_cons log_Log_free.quiet cs_nil)
theorem log_Log_right.sound : log_Log_right.c.ok Tryz.prog := by
  refine ⟨?_, Tryz.f126, log_Log_right.code, Tryz.func126, rfl, by decide⟩
  have h := fn_sound tt_ok mix_ok (x := log_Log_right.ann) (ins := log_Log_right.ins) (outs := log_Log_right.outs) (N := 39) Tryz.func126 (c := log_Log_right.code) rfl rfl (by kernel_rfl) (by kernel_rfl) log_Log_right.ok (by decide)
  rw [log_Log_right.eq] at h
  exact h

/-! ### (*wainwright/log.Log).read: function 68 -/
noncomputable def log_Log_read.l1 : ((List (Int × List UInt8)) × ((List (List UInt8) × (List (Int × List UInt8)) × Int × Int) × Bool × Int) × List Int × Int × Int) → Option (((List (Int × List UInt8)) × ((List (List UInt8) × (List (Int × List UInt8)) × Int × Int) × Bool × Int) × List Int × Int × Int) ⊕ ((List (Int × List UInt8)) × (List (List UInt8) × (List (Int × List UInt8)) × Int × Int) × Bool × Int)) := fun (c9, l0, t43, t44, t45) =>
  if decide (t45 < t44) = true then
    if 0 ≤ t45 ∧ t45 < (t43.length : Int) then
      (slab_Slab_Read (l0.1, IntKind.i64.wrap (2 + t45))).bind fun r58 =>
        if roomOk (c9.length + (([(t43.getD t45.toNat 0, r58)] : List (Int × List UInt8))).length) 24 then
          some (.inl ((c9 ++ (([(t43.getD t45.toNat 0, r58)] : List (Int × List UInt8))), l0, t43, t44, IntKind.i64.wrap (t45 + 1))))
        else none
    else none
  else
    some (.inr (((c9, l0))))

noncomputable def log_Log_read : ((List (List UInt8) × (List (Int × List UInt8)) × Int × Int) × Bool × Int) → Option ((List (Int × List UInt8)) × Bool) := fun l0 =>
  (slab_Slab_Read (l0.1, 1)).bind fun r16 =>
    if 0 ≤ (0 : Int) ∧ (0 : Int) < (r16.length : Int) then
      if decide (IntKind.i64.wrap (((r16.getD 0 0).toNat : Int)) > 40) = true then
        some (((([] : List (Int × List UInt8)), false)))
      else
        (slices_Repeat_int_int (([2] : List Int), IntKind.i64.wrap (((r16.getD 0 0).toNat : Int)))).bind fun r24 =>
          if 0 ≤ (1 : Int) ∧ (1 : Int) ≤ (r16.length : Int) then
            (mould_Read (r24, r16.drop 1)).bind fun (r29, r29_2) =>
              if (r29_2 != 0) = false then
                (mould_Size r24).bind fun r37 =>
                  if 0 ≤ IntKind.i64.wrap (1 + r37) ∧ IntKind.i64.wrap (1 + r37) ≤ (r16.length : Int) then
                    (strings_Trim (r16.drop (IntKind.i64.wrap (1 + r37)).toNat, ([0] : List UInt8))).bind fun r40 =>
                      if (!(r40 == [])) = true then
                        some (((([] : List (Int × List UInt8)), false)))
                      else
                        (loopO log_Log_read.l1 (([], l0, r29, (r29.length : Int), 0))).bind fun (c9, l0) =>
                          (log_Log_right (l0, c9)).bind fun r66 =>
                            some (((c9, r66)))
                  else none
              else
                some (((([] : List (Int × List UInt8)), false)))
          else none
    else none

def log_Log_read.ins : Spec := ⟨67, 0, [], [0], (.cons (.v (.ptr (.pair (.ptr (.pair (.sl .str) (.pair (.map I .str) (.pair I I)))) (.pair .bool I)))) .nil)⟩
def log_Log_read.outs : List Spec := [⟨67, 0, [], [2, 3], (.cons (.v (.sl (.st (.pair I .str)))) (.cons (.v .bool) .nil))⟩]
noncomputable def log_Log_read.c : Callee' := ⟨68, mkFits log_Log_read.ins log_Log_read.outs, mkFun log_Log_read.ins log_Log_read.outs log_Log_read, mkFun_nat _ _ _⟩
theorem log_Log_read.quiet : FunQuiet log_Log_read.c.F := mkFun_quiet rfl rfl
noncomputable def log_Log_read.ann : Ann :=
  (.seq (.reg []) (.seq (.reg [.std, .std, .std, .std, .callq [slab_Slab_Read.c]]) (.seq (.reg []) (.seq (.seq (.reg []) (.cond (.seq (.reg []) .std) .std)) (.seq (.reg [.inl I, .std, .callq [slices_Repeat_int_int.c]]) (.seq (.reg [.std, .std, .std, .callq [mould_Read.c]]) (.seq (.seq (.reg [.std, .std, .std, .std, .std, .callq [mould_Size.c], .std, .std, .callq [strings_Trim.c]]) (.cond (.seq (.reg []) .std) .std)) (.seq (.reg []) (.seq (.seq (.reg []) (.block (.loop ⟨67, 0, [.arr (.st (.pair I .str))], [0, 9, 43, 44, 45], (.cons (.v (.ptr (.pair (.ptr (.pair (.sl .str) (.pair (.map I .str) (.pair I I)))) (.pair .bool I)))) (.cons (.ref 0) (.cons (.v (.sl I)) (.cons (.v I) (.cons (.v I) .nil)))))⟩ [(.exit 0, ⟨67, 0, [.arr (.st (.pair I .str))], [0, 9], (.cons (.v (.ptr (.pair (.ptr (.pair (.sl .str) (.pair (.map I .str) (.pair I I)))) (.pair .bool I)))) (.cons (.ref 0) .nil))⟩)]
  (.seq (.reg []) (.seq (.cond .std .std) (.seq (.block (.seq (.reg []) (.reg [.std, .std, .std, .std, .std, .std, .std, .std, .callq [slab_Slab_Read.c], .std, .inl (.st (.pair I .str)), .obj (.st (.pair I .str))]))) (.reg []))))))) (.seq (.reg [.std, .std, .std, .callq [log_Log_right.c]]) .std))))))))))
noncomputable def log_Log_read.code : Code := match Tryz.f68.body with | some c => c | none => .skip
theorem log_Log_read.eq : absFn tt 67 log_Log_read.ins log_Log_read.outs log_Log_read.code log_Log_read.ann = log_Log_read := by
  funext a
  kernel_rfl
theorem log_Log_read.ok : log_Log_read.ann.ok Tryz.prog 0 67 :=
  ann_ok (by kernel_rfl) (by kernel_rfl) (show ∀ c ∈ ([slab_Slab_Read.c, slices_Repeat_int_int.c, mould_Read.c, mould_Size.c, strings_Trim.c, slab_Slab_Read.c, log_Log_right.c] : List Callee'), c.ok Tryz.prog from cs_cons slab_Slab_Read.sound (cs_cons slices_Repeat_int_int.sound (cs_cons mould_Read.sound (cs_cons mould_Size.sound (cs_cons strings_Trim.sound (cs_cons slab_Slab_Read.sound (cs_cons log_Log_right.sound cs_nil)))))))
    (show ∀ c ∈ ([slab_Slab_Read.c, slices_Repeat_int_int.c, mould_Read.c, mould_Size.c, strings_Trim.c, slab_Slab_Read.c, log_Log_right.c] : List Callee'), FunQuiet c.F from cs_cons slab_Slab_Read.quiet (cs_cons slices_Repeat_int_int.quiet (cs_cons mould_Read.quiet (cs_cons mould_Size.quiet (cs_cons strings_Trim.quiet (cs_cons slab_Slab_Read.quiet (cs_cons log_Log_right.quiet cs_nil)))))))
theorem log_Log_read.sound : log_Log_read.c.ok Tryz.prog := by
  refine ⟨?_, Tryz.f68, log_Log_read.code, Tryz.func68, rfl, by decide⟩
  have h := fn_sound tt_ok mix_ok (x := log_Log_read.ann) (ins := log_Log_read.ins) (outs := log_Log_read.outs) (N := 67) Tryz.func68 (c := log_Log_read.code) rfl rfl (by kernel_rfl) (by kernel_rfl) log_Log_read.ok (by decide)
  rw [log_Log_read.eq] at h
  exact h

/-! ### (*wainwright/log.Log).read: function 68 -/
noncomputable def log_Log_read_1.l1 : ((((List (List UInt8) × (List (Int × List UInt8)) × Int × Int) × Bool × Int) × List (Int × List UInt8)) × List Int × Int × Int) → Option (((((List (List UInt8) × (List (Int × List UInt8)) × Int × Int) × Bool × Int) × List (Int × List UInt8)) × List Int × Int × Int) ⊕ (((List (List UInt8) × (List (Int × List UInt8)) × Int × Int) × Bool × Int) × List (Int × List UInt8))) := fun (((l0a, l0b, l0c), c9), t43, t44, t45) =>
  if decide (t45 < t44) = true then
    if 0 ≤ t45 ∧ t45 < (t43.length : Int) then
      (slab_Slab_Read (l0a, IntKind.i64.wrap (2 + t45))).bind fun r58 =>
        if roomOk (c9.length + (([(t43.getD t45.toNat 0, r58)] : List (Int × List UInt8))).length) 24 then
          some (.inl ((((l0a, l0b, l0c), c9 ++ (([(t43.getD t45.toNat 0, r58)] : List (Int × List UInt8)))), t43, t44, IntKind.i64.wrap (t45 + 1))))
        else none
    else none
  else
    some (.inr ((((l0a, l0b, l0c), c9))))

noncomputable def log_Log_read_1 : ((List (List UInt8) × (List (Int × List UInt8)) × Int × Int) × Bool × Int) → Option (((List (List UInt8) × (List (Int × List UInt8)) × Int × Int) × Bool × Int) × (List (Int × List UInt8)) × Bool) := fun (l0a, l0b, l0c) =>
  (slab_Slab_Read (l0a, 1)).bind fun r16 =>
    if 0 ≤ (0 : Int) ∧ (0 : Int) < (r16.length : Int) then
      if decide (IntKind.i64.wrap (((r16.getD 0 0).toNat : Int)) > 40) = true then
        some ((((l0a, l0b, l0c), ([] : List (Int × List UInt8)), false)))
      else
        (slices_Repeat_int_int (([2] : List Int), IntKind.i64.wrap (((r16.getD 0 0).toNat : Int)))).bind fun r24 =>
          if 0 ≤ (1 : Int) ∧ (1 : Int) ≤ (r16.length : Int) then
            (mould_Read (r24, r16.drop 1)).bind fun (r29, r29_2) =>
              if (r29_2 != 0) = false then
                (mould_Size r24).bind fun r37 =>
                  if 0 ≤ IntKind.i64.wrap (1 + r37) ∧ IntKind.i64.wrap (1 + r37) ≤ (r16.length : Int) then
                    (strings_Trim (r16.drop (IntKind.i64.wrap (1 + r37)).toNat, ([0] : List UInt8))).bind fun r40 =>
                      if (!(r40 == [])) = true then
                        some ((((l0a, l0b, l0c), ([] : List (Int × List UInt8)), false)))
                      else
                        (loopO log_Log_read_1.l1 ((((l0a, l0b, l0c), []), r29, (r29.length : Int), 0))).bind fun ((l0a, l0b, l0c), c9) =>
                          (log_Log_right ((l0a, l0b, l0c), c9)).bind fun r66 =>
                            some ((((l0a, l0b, l0c), c9, r66)))
                  else none
              else
                some ((((l0a, l0b, l0c), ([] : List (Int × List UInt8)), false)))
          else none
    else none

def log_Log_read_1.ins : Spec := ⟨67, 0, [.box (.cons (.v (.ptr (.pair (.sl .str) (.pair (.map I .str) (.pair I I))))) (.cons (.v .bool) (.cons (.v I) .nil)))], [0], (.cons (.ref 0) .nil)⟩
def log_Log_read_1.outs : List Spec := [⟨67, 1, [.box (.cons (.v (.ptr (.pair (.sl .str) (.pair (.map I .str) (.pair I I))))) (.cons (.v .bool) (.cons (.v I) .nil)))], [2, 3], (.cons (.v (.sl (.st (.pair I .str)))) (.cons (.v .bool) .nil))⟩]
noncomputable def log_Log_read_1.c : Callee' := ⟨68, mkFits log_Log_read_1.ins log_Log_read_1.outs, mkFun log_Log_read_1.ins log_Log_read_1.outs log_Log_read_1, mkFun_nat _ _ _⟩
noncomputable def log_Log_read_1.ann : Ann :=
  (.seq (.reg []) (.seq (.reg [.std, .std, .std, .std, .callq [slab_Slab_Read.c]]) (.seq (.reg []) (.seq (.seq (.reg []) (.cond (.seq (.reg []) .std) .std)) (.seq (.reg [.inl I, .std, .callq [slices_Repeat_int_int.c]]) (.seq (.reg [.std, .std, .std, .callq [mould_Read.c]]) (.seq (.seq (.reg [.std, .std, .std, .std, .std, .callq [mould_Size.c], .std, .std, .callq [strings_Trim.c]]) (.cond (.seq (.reg []) .std) .std)) (.seq (.reg []) (.seq (.seq (.reg []) (.block (.loop ⟨67, 1, [.box (.cons (.v (.ptr (.pair (.sl .str) (.pair (.map I .str) (.pair I I))))) (.cons (.v .bool) (.cons (.v I) .nil))), .arr (.st (.pair I .str))], [0, 9, 43, 44, 45], (.cons (.ref 0) (.cons (.ref 1) (.cons (.v (.sl I)) (.cons (.v I) (.cons (.v I) .nil)))))⟩ [(.exit 0, ⟨67, 1, [.box (.cons (.v (.ptr (.pair (.sl .str) (.pair (.map I .str) (.pair I I))))) (.cons (.v .bool) (.cons (.v I) .nil))), .arr (.st (.pair I .str))], [0, 9], (.cons (.ref 0) (.cons (.ref 1) .nil))⟩)]
  (.seq (.reg []) (.seq (.cond .std .std) (.seq (.block (.seq (.reg []) (.reg [.std, .std, .std, .std, .std, .std, .std, .std, .callq [slab_Slab_Read.c], .std, .inl (.st (.pair I .str)), .obj (.st (.pair I .str))]))) (.reg []))))))) (.seq (.reg [.std, .std, .std, .callq [log_Log_right.c]]) .std))))))))))
noncomputable def log_Log_read_1.code : Code := match Tryz.f68.body with | some c => c | none => .skip
theorem log_Log_read_1.eq : absFn tt 67 log_Log_read_1.ins log_Log_read_1.outs log_Log_read_1.code log_Log_read_1.ann = log_Log_read_1 := by
  funext a
  kernel_rfl
theorem log_Log_read_1.ok : log_Log_read_1.ann.ok Tryz.prog 1 67 :=
  ann_ok (by kernel_rfl) (by kernel_rfl) (show ∀ c ∈ ([slab_Slab_Read.c, slices_Repeat_int_int.c, mould_Read.c, mould_Size.c, strings_Trim.c, slab_Slab_Read.c, log_Log_right.c] : List Callee'), c.ok Tryz.prog from cs_cons slab_Slab_Read.sound (cs_cons slices_Repeat_int_int.sound (cs_cons mould_Read.sound (cs_cons mould_Size.sound (cs_cons strings_Trim.sound (cs_cons slab_Slab_Read.sound (cs_cons log_Log_right.sound cs_nil)))))))
    (show ∀ c ∈ ([slab_Slab_Read.c, slices_Repeat_int_int.c, mould_Read.c, mould_Size.c, strings_Trim.c, slab_Slab_Read.c, log_Log_right.c] : List Callee'), FunQuiet c.F from cs_cons slab_Slab_Read.quiet (cs_cons slices_Repeat_int_int.quiet (cs_cons mould_Read.quiet (cs_cons mould_Size.quiet (cs_cons strings_Trim.quiet (cs_cons slab_Slab_Read.quiet (cs_cons log_Log_right.quiet cs_nil)))))))
theorem log_Log_read_1.sound : log_Log_read_1.c.ok Tryz.prog := by
  refine ⟨?_, Tryz.f68, log_Log_read_1.code, Tryz.func68, rfl, by decide⟩
  have h := fn_sound tt_ok mix_ok (x := log_Log_read_1.ann) (ins := log_Log_read_1.ins) (outs := log_Log_read_1.outs) (N := 67) Tryz.func68 (c := log_Log_read_1.code) rfl rfl (by kernel_rfl) (by kernel_rfl) log_Log_read_1.ok (by decide)
  rw [log_Log_read_1.eq] at h
  exact h

/-! ### (*wainwright/log.Log).read: function 68 -/
noncomputable def log_Log_read_2.l1 : (((Bool × Int) × (Int × Int) × List (List UInt8) × (List (Int × List UInt8)) × List (Int × List UInt8)) × List Int × Int × Int) → Option ((((Bool × Int) × (Int × Int) × List (List UInt8) × (List (Int × List UInt8)) × List (Int × List UInt8)) × List Int × Int × Int) ⊕ ((Bool × Int) × (Int × Int) × List (List UInt8) × (List (Int × List UInt8)) × List (Int × List UInt8))) := fun (((l0b, l0c), (o1c, o1d), o2, o3, c9), t43, t44, t45) =>
  if decide (t45 < t44) = true then
    if 0 ≤ t45 ∧ t45 < (t43.length : Int) then
      (slab_Slab_Read ((o2, o3, o1c, o1d), IntKind.i64.wrap (2 + t45))).bind fun r58 =>
        if roomOk (c9.length + (([(t43.getD t45.toNat 0, r58)] : List (Int × List UInt8))).length) 24 then
          some (.inl ((((l0b, l0c), (o1c, o1d), o2, o3, c9 ++ (([(t43.getD t45.toNat 0, r58)] : List (Int × List UInt8)))), t43, t44, IntKind.i64.wrap (t45 + 1))))
        else none
    else none
  else
    some (.inr ((((l0b, l0c), (o1c, o1d), o2, o3, c9))))

noncomputable def log_Log_read_2 : ((Bool × Int) × (Int × Int) × List (List UInt8) × List (Int × List UInt8)) → Option (((Bool × Int) × (Int × Int) × List (List UInt8) × List (Int × List UInt8)) × (List (Int × List UInt8)) × Bool) := fun ((l0b, l0c), (o1c, o1d), o2, o3) =>
  (slab_Slab_Read ((o2, o3, o1c, o1d), 1)).bind fun r16 =>
    if 0 ≤ (0 : Int) ∧ (0 : Int) < (r16.length : Int) then
      if decide (IntKind.i64.wrap (((r16.getD 0 0).toNat : Int)) > 40) = true then
        some (((((l0b, l0c), (o1c, o1d), o2, o3), ([] : List (Int × List UInt8)), false)))
      else
        (slices_Repeat_int_int (([2] : List Int), IntKind.i64.wrap (((r16.getD 0 0).toNat : Int)))).bind fun r24 =>
          if 0 ≤ (1 : Int) ∧ (1 : Int) ≤ (r16.length : Int) then
            (mould_Read (r24, r16.drop 1)).bind fun (r29, r29_2) =>
              if (r29_2 != 0) = false then
                (mould_Size r24).bind fun r37 =>
                  if 0 ≤ IntKind.i64.wrap (1 + r37) ∧ IntKind.i64.wrap (1 + r37) ≤ (r16.length : Int) then
                    (strings_Trim (r16.drop (IntKind.i64.wrap (1 + r37)).toNat, ([0] : List UInt8))).bind fun r40 =>
                      if (!(r40 == [])) = true then
                        some (((((l0b, l0c), (o1c, o1d), o2, o3), ([] : List (Int × List UInt8)), false)))
                      else
                        (loopO log_Log_read_2.l1 ((((l0b, l0c), (o1c, o1d), o2, o3, []), r29, (r29.length : Int), 0))).bind fun ((l0b, l0c), (o1c, o1d), o2, o3, c9) =>
                          (log_Log_right (((o2, o3, o1c, o1d), l0b, l0c), c9)).bind fun r66 =>
                            some (((((l0b, l0c), (o1c, o1d), o2, o3), c9, r66)))
                  else none
              else
                some (((((l0b, l0c), (o1c, o1d), o2, o3), ([] : List (Int × List UInt8)), false)))
          else none
    else none

def log_Log_read_2.ins : Spec := ⟨67, 0, [.box (.cons (.ref 1) (.cons (.v .bool) (.cons (.v I) .nil))), .box (.cons (.ref 2) (.cons (.ref 3) (.cons (.v I) (.cons (.v I) .nil)))), .arr .str, .map I .str], [0], (.cons (.ref 0) .nil)⟩
def log_Log_read_2.outs : List Spec := [⟨67, 4, [.box (.cons (.ref 1) (.cons (.v .bool) (.cons (.v I) .nil))), .box (.cons (.ref 2) (.cons (.ref 3) (.cons (.v I) (.cons (.v I) .nil)))), .arr .str, .map I .str], [2, 3], (.cons (.v (.sl (.st (.pair I .str)))) (.cons (.v .bool) .nil))⟩]
noncomputable def log_Log_read_2.c : Callee' := ⟨68, mkFits log_Log_read_2.ins log_Log_read_2.outs, mkFun log_Log_read_2.ins log_Log_read_2.outs log_Log_read_2, mkFun_nat _ _ _⟩
noncomputable def log_Log_read_2.ann : Ann :=
  (.seq (.reg []) (.seq (.reg [.std, .std, .std, .std, .callq [slab_Slab_Read.c]]) (.seq (.reg []) (.seq (.seq (.reg []) (.cond (.seq (.reg []) .std) .std)) (.seq (.reg [.inl I, .std, .callq [slices_Repeat_int_int.c]]) (.seq (.reg [.std, .std, .std, .callq [mould_Read.c]]) (.seq (.seq (.reg [.std, .std, .std, .std, .std, .callq [mould_Size.c], .std, .std, .callq [strings_Trim.c]]) (.cond (.seq (.reg []) .std) .std)) (.seq (.reg []) (.seq (.seq (.reg []) (.block (.loop ⟨67, 4, [.box (.cons (.ref 1) (.cons (.v .bool) (.cons (.v I) .nil))), .box (.cons (.ref 2) (.cons (.ref 3) (.cons (.v I) (.cons (.v I) .nil)))), .arr .str, .map I .str, .arr (.st (.pair I .str))], [0, 9, 43, 44, 45], (.cons (.ref 0) (.cons (.ref 4) (.cons (.v (.sl I)) (.cons (.v I) (.cons (.v I) .nil)))))⟩ [(.exit 0, ⟨67, 4, [.box (.cons (.ref 1) (.cons (.v .bool) (.cons (.v I) .nil))), .box (.cons (.ref 2) (.cons (.ref 3) (.cons (.v I) (.cons (.v I) .nil)))), .arr .str, .map I .str, .arr (.st (.pair I .str))], [0, 9], (.cons (.ref 0) (.cons (.ref 4) .nil))⟩)]
  (.seq (.reg []) (.seq (.cond .std .std) (.seq (.block (.seq (.reg []) (.reg [.std, .std, .std, .std, .std, .std, .std, .std, .callq [slab_Slab_Read.c], .std, .inl (.st (.pair I .str)), .obj (.st (.pair I .str))]))) (.reg []))))))) (.seq (.reg [.std, .std, .std, .callq [log_Log_right.c]]) .std))))))))))
noncomputable def log_Log_read_2.code : Code := match Tryz.f68.body with | some c => c | none => .skip
theorem log_Log_read_2.eq : absFn tt 67 log_Log_read_2.ins log_Log_read_2.outs log_Log_read_2.code log_Log_read_2.ann = log_Log_read_2 := by
  funext a
  kernel_rfl
theorem log_Log_read_2.ok : log_Log_read_2.ann.ok Tryz.prog 4 67 :=
  ann_ok (by kernel_rfl) (by kernel_rfl) (show ∀ c ∈ ([slab_Slab_Read.c, slices_Repeat_int_int.c, mould_Read.c, mould_Size.c, strings_Trim.c, slab_Slab_Read.c, log_Log_right.c] : List Callee'), c.ok Tryz.prog from cs_cons slab_Slab_Read.sound (cs_cons slices_Repeat_int_int.sound (cs_cons mould_Read.sound (cs_cons mould_Size.sound (cs_cons strings_Trim.sound (cs_cons slab_Slab_Read.sound (cs_cons log_Log_right.sound cs_nil)))))))
    (show ∀ c ∈ ([slab_Slab_Read.c, slices_Repeat_int_int.c, mould_Read.c, mould_Size.c, strings_Trim.c, slab_Slab_Read.c, log_Log_right.c] : List Callee'), FunQuiet c.F from cs_cons slab_Slab_Read.quiet (cs_cons slices_Repeat_int_int.quiet (cs_cons mould_Read.quiet (cs_cons mould_Size.quiet (cs_cons strings_Trim.quiet (cs_cons slab_Slab_Read.quiet (cs_cons log_Log_right.quiet cs_nil)))))))
theorem log_Log_read_2.sound : log_Log_read_2.c.ok Tryz.prog := by
  refine ⟨?_, Tryz.f68, log_Log_read_2.code, Tryz.func68, rfl, by decide⟩
  have h := fn_sound tt_ok mix_ok (x := log_Log_read_2.ann) (ins := log_Log_read_2.ins) (outs := log_Log_read_2.outs) (N := 67) Tryz.func68 (c := log_Log_read_2.code) rfl rfl (by kernel_rfl) (by kernel_rfl) log_Log_read_2.ok (by decide)
  rw [log_Log_read_2.eq] at h
  exact h

/-! ### (*wainwright/slab.Slab).call: function 172 -/
noncomputable def slab_Slab_call : ((Int × Int) × List (List UInt8) × List (Int × List UInt8)) → Option (((Int × Int) × List (List UInt8) × List (Int × List UInt8)) × Int) := fun ((s0c, s0d), o1, o2) =>
  ((
    if (s0d == 0) = true then
      some (.inr (((((IntKind.i64.wrap (s0c + 1), s0d), o1, o2), 14))))
    else
      if decide (s0d > 0) = true then
        some (.inl (((s0c, IntKind.i64.wrap (s0d - 1)), o1, o2)))
      else
        some (.inl (((s0c, s0d), o1, o2)))) : Option (((Int × Int) × List (List UInt8) × List (Int × List UInt8)) ⊕ (((Int × Int) × List (List UInt8) × List (Int × List UInt8)) × Int))).bind fun d => match d with
  | .inl ((s0c, s0d), o1, o2) =>
    some (((((IntKind.i64.wrap (s0c + 1), s0d), o1, o2), 0)))
  | .inr ((((o0c, o0d), o1, o2), t2)) =>
    some (((((o0c, o0d), o1, o2), t2)))

def slab_Slab_call.ins : Spec := ⟨39, 0, [.box (.cons (.ref 1) (.cons (.ref 2) (.cons (.v I) (.cons (.v I) .nil)))), .arr .str, .map I .str], [0], (.cons (.ref 0) .nil)⟩
def slab_Slab_call.outs : List Spec := [⟨39, 3, [.box (.cons (.ref 1) (.cons (.ref 2) (.cons (.v I) (.cons (.v I) .nil)))), .arr .str, .map I .str], [2], (.cons (.v I) .nil)⟩]
noncomputable def slab_Slab_call.c : Callee' := ⟨172, mkFits slab_Slab_call.ins slab_Slab_call.outs, mkFun slab_Slab_call.ins slab_Slab_call.outs slab_Slab_call, mkFun_nat _ _ _⟩
noncomputable def slab_Slab_call.ann : Ann :=
  (.seq (.reg []) (.join [(.norm, ⟨39, 3, [.box (.cons (.ref 1) (.cons (.ref 2) (.cons (.v I) (.cons (.v I) .nil)))), .arr .str, .map I .str], [0], (.cons (.ref 0) .nil)⟩), (.ret, ⟨39, 3, [.box (.cons (.ref 1) (.cons (.ref 2) (.cons (.v I) (.cons (.v I) .nil)))), .arr .str, .map I .str], [2], (.cons (.v I) .nil)⟩)]
  (.block (.seq (.reg [.std, .obj .bool]) (.cond (.seq (.reg []) .std) (.seq (.reg []) (.cond (.seq (.reg []) (.seq (.reg []) .std)) (.seq (.reg []) (.cond (.reg []) .std))))))) (.seq (.reg []) (.seq (.reg []) .std))))
noncomputable def slab_Slab_call.code : Code := match Tryz.f172.body with | some c => c | none => .skip
theorem slab_Slab_call.eq : absFn tt 39 slab_Slab_call.ins slab_Slab_call.outs slab_Slab_call.code slab_Slab_call.ann = slab_Slab_call := by
  funext a
  kernel_rfl
theorem slab_Slab_call.ok : slab_Slab_call.ann.ok Tryz.prog 3 39 :=
  ann_ok (by kernel_rfl) (by kernel_rfl) (show ∀ c ∈ ([] : List Callee'), c.ok Tryz.prog from cs_nil)
    (show ∀ c ∈ ([] : List Callee'), FunQuiet c.F from cs_nil)
theorem slab_Slab_call.sound : slab_Slab_call.c.ok Tryz.prog := by
  refine ⟨?_, Tryz.f172, slab_Slab_call.code, Tryz.func172, rfl, by decide⟩
  have h := fn_sound tt_ok mix_ok (x := slab_Slab_call.ann) (ins := slab_Slab_call.ins) (outs := slab_Slab_call.outs) (N := 39) Tryz.func172 (c := slab_Slab_call.code) rfl rfl (by kernel_rfl) (by kernel_rfl) slab_Slab_call.ok (by decide)
  rw [slab_Slab_call.eq] at h
  exact h

/-! ### (*wainwright/slab.Slab).Write: function 130 -/
noncomputable def slab_Slab_Write : (((Int × Int) × List (List UInt8) × List (Int × List UInt8)) × Int × List UInt8) → Option (((Int × Int) × List (List UInt8) × List (Int × List UInt8)) × Int) := fun (((s0c, s0d), o1, o2), i1, data2) =>
  (slab_Slab_call ((s0c, s0d), o1, o2)).bind fun (((r9, r9_2), r9_3, r9_4), r9_5) =>
    if (r9_5 != 0) = true then
      some (((((r9, r9_2), r9_3, r9_4), r9_5)))
    else
      (slab_Slab_there ((r9_3, r9_4, r9, r9_2), i1)).bind fun r15 =>
        if (!r15) = false then
          if decide ((data2.length : Int) > 128) = true then
            some (((((r9, r9_2), r9_3, r9_4), 1)))
          else
            (slab_whole data2).bind fun r28 =>
              some (((((r9, r9_2), r9_3, mput (K := I) (V := .str) r9_4 i1 r28), 0)))
        else
          some (((((r9, r9_2), r9_3, r9_4), 1)))

def slab_Slab_Write.ins : Spec := ⟨29, 0, [.box (.cons (.ref 1) (.cons (.ref 2) (.cons (.v I) (.cons (.v I) .nil)))), .arr .str, .map I .str], [0, 1, 2], (.cons (.ref 0) (.cons (.v I) (.cons (.v .str) .nil)))⟩
def slab_Slab_Write.outs : List Spec := [⟨29, 3, [.box (.cons (.ref 1) (.cons (.ref 2) (.cons (.v I) (.cons (.v I) .nil)))), .arr .str, .map I .str], [6], (.cons (.v I) .nil)⟩]
noncomputable def slab_Slab_Write.c : Callee' := ⟨130, mkFits slab_Slab_Write.ins slab_Slab_Write.outs, mkFun slab_Slab_Write.ins slab_Slab_Write.outs slab_Slab_Write, mkFun_nat _ _ _⟩
noncomputable def slab_Slab_Write.ann : Ann :=
  (.seq (.reg []) (.seq (.seq (.reg [.std, .call [slab_Slab_call.c]]) (.seq (.reg []) (.cond (.seq (.reg []) .std) .std))) (.seq (.seq (.reg [.std, .std, .callq [slab_Slab_there.c]]) (.cond (.seq (.reg []) .std) .std)) (.seq (.drw [.std, .std, .std, .std, .std, .std, .callq [slab_whole.c]]) (.seq (.reg []) .std)))))
noncomputable def slab_Slab_Write.code : Code := match Tryz.f130.body with | some c => c | none => .skip
theorem slab_Slab_Write.eq : absFn tt 29 slab_Slab_Write.ins slab_Slab_Write.outs slab_Slab_Write.code slab_Slab_Write.ann = slab_Slab_Write := by
  funext a
  kernel_rfl
theorem slab_Slab_Write.ok : slab_Slab_Write.ann.ok Tryz.prog 3 29 :=
  ann_ok (by kernel_rfl) (by kernel_rfl) (show ∀ c ∈ ([slab_Slab_call.c, slab_Slab_there.c, slab_whole.c] : List Callee'), c.ok Tryz.prog from cs_cons slab_Slab_call.sound (cs_cons slab_Slab_there.sound (cs_cons slab_whole.sound cs_nil)))
    (show ∀ c ∈ ([slab_Slab_there.c, slab_whole.c] : List Callee'), FunQuiet c.F from cs_cons slab_Slab_there.quiet (cs_cons slab_whole.quiet cs_nil))
theorem slab_Slab_Write.sound : slab_Slab_Write.c.ok Tryz.prog := by
  refine ⟨?_, Tryz.f130, slab_Slab_Write.code, Tryz.func130, rfl, by decide⟩
  have h := fn_sound tt_ok mix_ok (x := slab_Slab_Write.ann) (ins := slab_Slab_Write.ins) (outs := slab_Slab_Write.outs) (N := 29) Tryz.func130 (c := slab_Slab_Write.code) rfl rfl (by kernel_rfl) (by kernel_rfl) slab_Slab_Write.ok (by decide)
  rw [slab_Slab_Write.eq] at h
  exact h

/-! ### maps.Keys[map[int]string,int,string]: function 82 -/
noncomputable def maps_Keys_map_int_string_int_string : (List (Int × List UInt8)) → Option (List (Int × List UInt8)) := fun m0 =>
  some m0

def maps_Keys_map_int_string_int_string.ins : Spec := ⟨4, 0, [.map I .str], [0], (.cons (.ref 0) .nil)⟩
def maps_Keys_map_int_string_int_string.outs : List Spec := [⟨4, 1, [.map I .str, .box (.cons (.ref 0) .nil)], [2], (.cons (.fn (.func 135) .nil (.cons (.ref 1) .nil)) .nil)⟩]
noncomputable def maps_Keys_map_int_string_int_string.c : Callee' := ⟨82, mkFits maps_Keys_map_int_string_int_string.ins maps_Keys_map_int_string_int_string.outs, mkFun maps_Keys_map_int_string_int_string.ins maps_Keys_map_int_string_int_string.outs maps_Keys_map_int_string_int_string, mkFun_nat _ _ _⟩
noncomputable def maps_Keys_map_int_string_int_string.ann : Ann :=
  (.seq (.reg []) (.seq (.reg []) .std))
noncomputable def maps_Keys_map_int_string_int_string.code : Code := match Tryz.f82.body with | some c => c | none => .skip
theorem maps_Keys_map_int_string_int_string.eq : absFn tt 4 maps_Keys_map_int_string_int_string.ins maps_Keys_map_int_string_int_string.outs maps_Keys_map_int_string_int_string.code maps_Keys_map_int_string_int_string.ann = maps_Keys_map_int_string_int_string := by
  funext a
  kernel_rfl
theorem maps_Keys_map_int_string_int_string.ok : maps_Keys_map_int_string_int_string.ann.ok Tryz.prog 1 4 :=
  ann_ok (by kernel_rfl) (by kernel_rfl) (show ∀ c ∈ ([] : List Callee'), c.ok Tryz.prog from cs_nil)
    (show ∀ c ∈ ([] : List Callee'), FunQuiet c.F from cs_nil)
theorem maps_Keys_map_int_string_int_string.sound : maps_Keys_map_int_string_int_string.c.ok Tryz.prog := by
  refine ⟨?_, Tryz.f82, maps_Keys_map_int_string_int_string.code, Tryz.func82, rfl, by decide⟩
  have h := fn_sound tt_ok mix_ok (x := maps_Keys_map_int_string_int_string.ann) (ins := maps_Keys_map_int_string_int_string.ins) (outs := maps_Keys_map_int_string_int_string.outs) (N := 4) Tryz.func82 (c := maps_Keys_map_int_string_int_string.code) rfl rfl (by kernel_rfl) (by kernel_rfl) maps_Keys_map_int_string_int_string.ok (by decide)
  rw [maps_Keys_map_int_string_int_string.eq] at h
  exact h

/-! ### (*wainwright/slab.Slab).Loose: function 29 -/
noncomputable def slab_Slab_Loose : ((Int × Int) × List (List UInt8) × List (Int × List UInt8)) → Option (((Int × Int) × List (List UInt8) × List (Int × List UInt8)) × List Int) := fun ((s0c, s0d), o1, o2) =>
  (maps_Keys_map_int_string_int_string o2).bind fun r9 =>
    (slices_Sorted r9).bind fun (r10, r10_2) =>
      some (((((s0c, s0d), o1, r10), r10_2)))

def slab_Slab_Loose.ins : Spec := ⟨11, 0, [.box (.cons (.ref 1) (.cons (.ref 2) (.cons (.v I) (.cons (.v I) .nil)))), .arr .str, .map I .str], [0], (.cons (.ref 0) .nil)⟩
def slab_Slab_Loose.outs : List Spec := [⟨11, 3, [.box (.cons (.ref 1) (.cons (.ref 2) (.cons (.v I) (.cons (.v I) .nil)))), .arr .str, .map I .str], [2], (.cons (.v (.sl I)) .nil)⟩]
noncomputable def slab_Slab_Loose.c : Callee' := ⟨29, mkFits slab_Slab_Loose.ins slab_Slab_Loose.outs, mkFun slab_Slab_Loose.ins slab_Slab_Loose.outs slab_Slab_Loose, mkFun_nat _ _ _⟩
noncomputable def slab_Slab_Loose.ann : Ann :=
  (.seq (.reg []) (.seq (.seq (.reg [.std, .obj .bool]) (.cond (.seq (.reg []) .std) .std)) (.seq (.reg [.std, .std, .std, .std, .call [maps_Keys_map_int_string_int_string.c], .call [slices_Sorted.c]]) .std)))
noncomputable def slab_Slab_Loose.code : Code := match Tryz.f29.body with | some c => c | none => .skip
theorem slab_Slab_Loose.eq : absFn tt 11 slab_Slab_Loose.ins slab_Slab_Loose.outs slab_Slab_Loose.code slab_Slab_Loose.ann = slab_Slab_Loose := by
  funext a
  kernel_rfl
theorem slab_Slab_Loose.ok : slab_Slab_Loose.ann.ok Tryz.prog 3 11 :=
  ann_ok (by kernel_rfl) (by kernel_rfl) (show ∀ c ∈ ([maps_Keys_map_int_string_int_string.c, slices_Sorted.c] : List Callee'), c.ok Tryz.prog from cs_cons maps_Keys_map_int_string_int_string.sound (cs_cons slices_Sorted.sound cs_nil))
    (show ∀ c ∈ ([] : List Callee'), FunQuiet c.F from cs_nil)
theorem slab_Slab_Loose.sound : slab_Slab_Loose.c.ok Tryz.prog := by
  refine ⟨?_, Tryz.f29, slab_Slab_Loose.code, Tryz.func29, rfl, by decide⟩
  have h := fn_sound tt_ok mix_ok (x := slab_Slab_Loose.ann) (ins := slab_Slab_Loose.ins) (outs := slab_Slab_Loose.outs) (N := 11) Tryz.func29 (c := slab_Slab_Loose.code) rfl rfl (by kernel_rfl) (by kernel_rfl) slab_Slab_Loose.ok (by decide)
  rw [slab_Slab_Loose.eq] at h
  exact h

theorem slab_Slab_Loose.quiet : FunQuiet slab_Slab_Loose.c.F := slab_quiet (n := 11) (m := 11) (is := [0]) (os := [2]) (so := (.cons (.v (.sl I)) .nil)) slab_Slab_Loose fun (x : (Int × Int) × List (List UInt8) × List (Int × List UInt8)) (y : ((Int × Int) × List (List UInt8) × List (Int × List UInt8)) × List Int) h => by
  obtain ⟨⟨c, u⟩, xs, es⟩ := x
  change ((slices_Sorted es).bind fun q => some (((c, u), xs, q.1), q.2)) = some y at h
  obtain ⟨q, h1, h2⟩ := Option.bind_eq_some_iff.1 h
  unfold slices_Sorted at h1
  split at h1
  · rw [← Option.some.inj h2, ← Option.some.inj h1]
    rfl
  · cases h1

/-! ### (*wainwright/slab.Slab).Flush$1: function 174 -/
noncomputable def slab_Slab_Flush_1 : Int → Option (Bool) := fun t0 =>
  some true

def slab_Slab_Flush_1.ins : Spec := ⟨3, 0, [], [0], (.cons (.v I) .nil)⟩
def slab_Slab_Flush_1.outs : List Spec := [⟨3, 0, [], [2], (.cons (.v .bool) .nil)⟩]
noncomputable def slab_Slab_Flush_1.c : Callee' := ⟨174, mkFits slab_Slab_Flush_1.ins slab_Slab_Flush_1.outs, mkFun slab_Slab_Flush_1.ins slab_Slab_Flush_1.outs slab_Slab_Flush_1, mkFun_nat _ _ _⟩
theorem slab_Slab_Flush_1.quiet : FunQuiet slab_Slab_Flush_1.c.F := mkFun_quiet rfl rfl
noncomputable def slab_Slab_Flush_1.ann : Ann :=
  (.seq (.reg []) (.seq (.reg []) .std))
noncomputable def slab_Slab_Flush_1.code : Code := match Tryz.f174.body with | some c => c | none => .skip
theorem slab_Slab_Flush_1.eq : absFn tt 3 slab_Slab_Flush_1.ins slab_Slab_Flush_1.outs slab_Slab_Flush_1.code slab_Slab_Flush_1.ann = slab_Slab_Flush_1 := by
  funext a
  kernel_rfl
theorem slab_Slab_Flush_1.ok : slab_Slab_Flush_1.ann.ok Tryz.prog 0 3 :=
  ann_ok (by kernel_rfl) (by kernel_rfl) (show ∀ c ∈ ([] : List Callee'), c.ok Tryz.prog from cs_nil)
    (show ∀ c ∈ ([] : List Callee'), FunQuiet c.F from cs_nil)
theorem slab_Slab_Flush_1.sound : slab_Slab_Flush_1.c.ok Tryz.prog := by
  refine ⟨?_, Tryz.f174, slab_Slab_Flush_1.code, Tryz.func174, rfl, by decide⟩
  have h := fn_sound tt_ok mix_ok (x := slab_Slab_Flush_1.ann) (ins := slab_Slab_Flush_1.ins) (outs := slab_Slab_Flush_1.outs) (N := 3) Tryz.func174 (c := slab_Slab_Flush_1.code) rfl rfl (by kernel_rfl) (by kernel_rfl) slab_Slab_Flush_1.ok (by decide)
  rw [slab_Slab_Flush_1.eq] at h
  exact h

/-! ### (*wainwright/slab.Slab).keep: function 173 -/
noncomputable def slab_Slab_keep.l1 : (((Int × Int) × List (List UInt8) × List (Int × List UInt8)) × List Int × Int × Int) → Option ((((Int × Int) × List (List UInt8) × List (Int × List UInt8)) × List Int × Int × Int) ⊕ ((Int × Int) × List (List UInt8) × List (Int × List UInt8))) := fun (((s0c, s0d), o1, o2), t7, t8, t9) =>
  if decide (t9 < t8) = true then
    if 0 ≤ t9 ∧ t9 < (t7.length : Int) then
      (slab_Slab_Flush_1 t9).bind fun r16 =>
        if r16 = true then
          if 0 ≤ t7.getD t9.toNat 0 ∧ t7.getD t9.toNat 0 < (o1.length : Int) then
            some (.inl ((((s0c, s0d), o1.set ((t7.getD t9.toNat 0).toNat) (((mget (K := I) (V := .str) o2 (t7.getD t9.toNat 0)).getD [])), o2), t7, t8, IntKind.i64.wrap (t9 + 1))))
          else none
        else
          some (.inl ((((s0c, s0d), o1, o2), t7, t8, IntKind.i64.wrap (t9 + 1))))
    else none
  else
    some (.inr ((((s0c, s0d), o1, o2))))

noncomputable def slab_Slab_keep : ((Int × Int) × List (List UInt8) × List (Int × List UInt8)) → Option ((Int × Int) × List (List UInt8) × List (Int × List UInt8)) := fun ((s0c, s0d), o1, o2) =>
  (slab_Slab_Loose ((s0c, s0d), o1, o2)).bind fun ((_, _, _), r7) =>
    (loopO slab_Slab_keep.l1 ((((s0c, s0d), o1, o2), r7, (r7.length : Int), 0))).bind fun ((s0c, s0d), o1, o2) =>
      some ((((s0c, s0d), o1, ([] : List (Int × List UInt8)))))

def slab_Slab_keep.ins : Spec := ⟨34, 0, [.box (.cons (.ref 1) (.cons (.ref 2) (.cons (.v I) (.cons (.v I) .nil)))), .arr .str, .map I .str], [0, 1], (.cons (.ref 0) (.cons (.fn (.func 174) .nil .nil) .nil))⟩
def slab_Slab_keep.outs : List Spec := [⟨34, 3, [.box (.cons (.ref 1) (.cons (.ref 2) (.cons (.v I) (.cons (.v I) .nil)))), .arr .str, .map I .str], [], .nil⟩]
noncomputable def slab_Slab_keep.c : Callee' := ⟨173, mkFits slab_Slab_keep.ins slab_Slab_keep.outs, mkFun slab_Slab_keep.ins slab_Slab_keep.outs slab_Slab_keep, mkFun_nat _ _ _⟩
noncomputable def slab_Slab_keep.ann : Ann :=
  (.seq (.seq (.reg [.std, .callq [slab_Slab_Loose.c]]) (.block (.loop ⟨34, 3, [.box (.cons (.ref 1) (.cons (.ref 2) (.cons (.v I) (.cons (.v I) .nil)))), .arr .str, .map I .str], [0, 1, 7, 8, 9], (.cons (.ref 0) (.cons (.fn (.func 174) .nil .nil) (.cons (.v (.sl I)) (.cons (.v I) (.cons (.v I) .nil)))))⟩ [(.exit 0, ⟨34, 3, [.box (.cons (.ref 1) (.cons (.ref 2) (.cons (.v I) (.cons (.v I) .nil)))), .arr .str, .map I .str], [0], (.cons (.ref 0) .nil)⟩)]
  (.seq (.reg []) (.seq (.cond .std .std) (.seq (.block (.seq (.reg []) (.seq (.reg [.std, .std, .callq [slab_Slab_Flush_1.c]]) (.cond (.drw []) .std)))) (.reg []))))))) (.reg []))
noncomputable def slab_Slab_keep.code : Code := match Tryz.f173.body with | some c => c | none => .skip
theorem slab_Slab_keep.eq : absFn tt 34 slab_Slab_keep.ins slab_Slab_keep.outs slab_Slab_keep.code slab_Slab_keep.ann = slab_Slab_keep := by
  funext a
  kernel_rfl
theorem slab_Slab_keep.ok : slab_Slab_keep.ann.ok Tryz.prog 3 34 :=
  ann_ok (by kernel_rfl) (by kernel_rfl) (show ∀ c ∈ ([slab_Slab_Loose.c, slab_Slab_Flush_1.c] : List Callee'), c.ok Tryz.prog from cs_cons slab_Slab_Loose.sound (cs_cons slab_Slab_Flush_1.sound cs_nil))
    (show ∀ c ∈ ([slab_Slab_Loose.c, slab_Slab_Flush_1.c] : List Callee'), FunQuiet c.F from cs_cons slab_Slab_Loose.quiet (cs_cons slab_Slab_Flush_1.quiet cs_nil))
theorem slab_Slab_keep.sound : slab_Slab_keep.c.ok Tryz.prog := by
  refine ⟨?_, Tryz.f173, slab_Slab_keep.code, Tryz.func173, rfl, by decide⟩
  have h := fn_sound tt_ok mix_ok (x := slab_Slab_keep.ann) (ins := slab_Slab_keep.ins) (outs := slab_Slab_keep.outs) (N := 34) Tryz.func173 (c := slab_Slab_keep.code) rfl rfl (by kernel_rfl) (by kernel_rfl) slab_Slab_keep.ok (by decide)
  rw [slab_Slab_keep.eq] at h
  exact h

/-! ### (*wainwright/slab.Slab).Flush: function 131 -/
noncomputable def slab_Slab_Flush : ((Int × Int) × List (List UInt8) × List (Int × List UInt8)) → Option (((Int × Int) × List (List UInt8) × List (Int × List UInt8)) × Int) := fun ((s0c, s0d), o1, o2) =>
  (slab_Slab_call ((s0c, s0d), o1, o2)).bind fun (((r5, r5_2), r5_3, r5_4), r5_5) =>
    if (r5_5 == 0) = true then
      (slab_Slab_keep ((r5, r5_2), r5_3, r5_4)).bind fun ((r9, r9_2), r9_3, r9_4) =>
        some (((((r9, r9_2), r9_3, r9_4), r5_5)))
    else
      some (((((r5, r5_2), r5_3, r5_4), r5_5)))

def slab_Slab_Flush.ins : Spec := ⟨11, 0, [.box (.cons (.ref 1) (.cons (.ref 2) (.cons (.v I) (.cons (.v I) .nil)))), .arr .str, .map I .str], [0], (.cons (.ref 0) .nil)⟩
def slab_Slab_Flush.outs : List Spec := [⟨11, 3, [.box (.cons (.ref 1) (.cons (.ref 2) (.cons (.v I) (.cons (.v I) .nil)))), .arr .str, .map I .str], [2], (.cons (.v I) .nil)⟩]
noncomputable def slab_Slab_Flush.c : Callee' := ⟨131, mkFits slab_Slab_Flush.ins slab_Slab_Flush.outs, mkFun slab_Slab_Flush.ins slab_Slab_Flush.outs slab_Slab_Flush, mkFun_nat _ _ _⟩
noncomputable def slab_Slab_Flush.ann : Ann :=
  (.seq (.reg []) (.seq (.reg [.std, .call [slab_Slab_call.c]]) (.seq (.seq (.reg []) (.cond (.reg [.std, .call [slab_Slab_keep.c]]) .std)) (.seq (.reg []) .std))))
noncomputable def slab_Slab_Flush.code : Code := match Tryz.f131.body with | some c => c | none => .skip
theorem slab_Slab_Flush.eq : absFn tt 11 slab_Slab_Flush.ins slab_Slab_Flush.outs slab_Slab_Flush.code slab_Slab_Flush.ann = slab_Slab_Flush := by
  funext a
  kernel_rfl
theorem slab_Slab_Flush.ok : slab_Slab_Flush.ann.ok Tryz.prog 3 11 :=
  ann_ok (by kernel_rfl) (by kernel_rfl) (show ∀ c ∈ ([slab_Slab_call.c, slab_Slab_keep.c] : List Callee'), c.ok Tryz.prog from cs_cons slab_Slab_call.sound (cs_cons slab_Slab_keep.sound cs_nil))
    (show ∀ c ∈ ([] : List Callee'), FunQuiet c.F from cs_nil)
theorem slab_Slab_Flush.sound : slab_Slab_Flush.c.ok Tryz.prog := by
  refine ⟨?_, Tryz.f131, slab_Slab_Flush.code, Tryz.func131, rfl, by decide⟩
  have h := fn_sound tt_ok mix_ok (x := slab_Slab_Flush.ann) (ins := slab_Slab_Flush.ins) (outs := slab_Slab_Flush.outs) (N := 11) Tryz.func131 (c := slab_Slab_Flush.code) rfl rfl (by kernel_rfl) (by kernel_rfl) slab_Slab_Flush.ok (by decide)
  rw [slab_Slab_Flush.eq] at h
  exact h

/-! ### (*wainwright/log.Log).write: function 74 -/
noncomputable def log_Log_write.l1 : (((Bool × Int) × (Int × Int) × List (List UInt8) × List (Int × List UInt8)) × (List (Int × List UInt8)) × Int × Int) → Option ((((Bool × Int) × (Int × Int) × List (List UInt8) × List (Int × List UInt8)) × (List (Int × List UInt8)) × Int × Int) ⊕ (((Bool × Int) × (Int × Int) × List (List UInt8) × List (Int × List UInt8)) ⊕ (((Bool × Int) × (Int × Int) × List (List UInt8) × List (Int × List UInt8)) × Int))) := fun (((l0b, l0c), (o1c, o1d), o2, o3), t8, t9, t10) =>
  if decide (t10 < t9) = true then
    if 0 ≤ t10 ∧ t10 < (t8.length : Int) then
      (slab_Slab_Write (((o1c, o1d), o2, o3), (t8.getD t10.toNat (0, [])).1, (t8.getD t10.toNat (0, [])).2)).bind fun (((r22, r22_2), r22_3, r22_4), r22_5) =>
        if (r22_5 != 0) = true then
          some (.inr (.inr (((((l0b, l0c), (r22, r22_2), r22_3, r22_4), r22_5)))))
        else
          some (.inl ((((l0b, l0c), (r22, r22_2), r22_3, r22_4), t8, t9, IntKind.i64.wrap (t10 + 1))))
    else none
  else
    some (.inr (.inl (((l0b, l0c), (o1c, o1d), o2, o3))))

noncomputable def log_Log_write : (((Bool × Int) × (Int × Int) × List (List UInt8) × List (Int × List UInt8)) × List (Int × List UInt8)) → Option (((Bool × Int) × (Int × Int) × List (List UInt8) × List (Int × List UInt8)) × Int) := fun (((l0b, l0c), (o1c, o1d), o2, o3), c1) =>
  (loopO log_Log_write.l1 ((((l0b, l0c), (o1c, o1d), o2, o3), c1, (c1.length : Int), 0))).bind fun d => match d with
  | .inl ((l0b, l0c), (o1c, o1d), o2, o3) =>
    (slab_Slab_Flush ((o1c, o1d), o2, o3)).bind fun (((r31, r31_2), r31_3, r31_4), r31_5) =>
      some (((((l0b, l0c), (r31, r31_2), r31_3, r31_4), r31_5)))
  | .inr ((((o0b, o0c), (o1c, o1d), o2, o3), t4)) =>
    some (((((o0b, o0c), (o1c, o1d), o2, o3), t4)))

def log_Log_write.ins : Spec := ⟨32, 0, [.box (.cons (.ref 1) (.cons (.v .bool) (.cons (.v I) .nil))), .box (.cons (.ref 2) (.cons (.ref 3) (.cons (.v I) (.cons (.v I) .nil)))), .arr .str, .map I .str], [0, 1], (.cons (.ref 0) (.cons (.v (.sl (.st (.pair I .str)))) .nil))⟩
def log_Log_write.outs : List Spec := [⟨32, 4, [.box (.cons (.ref 1) (.cons (.v .bool) (.cons (.v I) .nil))), .box (.cons (.ref 2) (.cons (.ref 3) (.cons (.v I) (.cons (.v I) .nil)))), .arr .str, .map I .str], [4], (.cons (.v I) .nil)⟩]
noncomputable def log_Log_write.c : Callee' := ⟨74, mkFits log_Log_write.ins log_Log_write.outs, mkFun log_Log_write.ins log_Log_write.outs log_Log_write, mkFun_nat _ _ _⟩
noncomputable def log_Log_write.ann : Ann :=
  (.seq (.reg []) (.seq (.seq (.reg []) (.block (.loop ⟨32, 4, [.box (.cons (.ref 1) (.cons (.v .bool) (.cons (.v I) .nil))), .box (.cons (.ref 2) (.cons (.ref 3) (.cons (.v I) (.cons (.v I) .nil)))), .arr .str, .map I .str], [0, 8, 9, 10], (.cons (.ref 0) (.cons (.v (.sl (.st (.pair I .str)))) (.cons (.v I) (.cons (.v I) .nil))))⟩ [(.exit 0, ⟨32, 4, [.box (.cons (.ref 1) (.cons (.v .bool) (.cons (.v I) .nil))), .box (.cons (.ref 2) (.cons (.ref 3) (.cons (.v I) (.cons (.v I) .nil)))), .arr .str, .map I .str], [0], (.cons (.ref 0) .nil)⟩), (.ret, ⟨32, 4, [.box (.cons (.ref 1) (.cons (.v .bool) (.cons (.v I) .nil))), .box (.cons (.ref 2) (.cons (.ref 3) (.cons (.v I) (.cons (.v I) .nil)))), .arr .str, .map I .str], [4], (.cons (.v I) .nil)⟩)]
  (.seq (.reg []) (.seq (.cond .std .std) (.seq (.block (.seq (.reg []) (.seq (.drw [.std, .std, .std, .std, .std, .std, .std, .std, .call [slab_Slab_Write.c]]) (.seq (.reg []) (.cond (.seq (.reg []) .std) .std))))) (.reg []))))))) (.seq (.reg [.std, .std, .std, .std, .call [slab_Slab_Flush.c]]) .std)))
noncomputable def log_Log_write.code : Code := match Tryz.f74.body with | some c => c | none => .skip
theorem log_Log_write.eq : absFn tt 32 log_Log_write.ins log_Log_write.outs log_Log_write.code log_Log_write.ann = log_Log_write := by
  funext a
  kernel_rfl
theorem log_Log_write.ok : log_Log_write.ann.ok Tryz.prog 4 32 :=
  ann_ok (by kernel_rfl) (by kernel_rfl) (show ∀ c ∈ ([slab_Slab_Write.c, slab_Slab_Flush.c] : List Callee'), c.ok Tryz.prog from cs_cons slab_Slab_Write.sound (cs_cons slab_Slab_Flush.sound cs_nil))
    (show ∀ c ∈ ([] : List Callee'), FunQuiet c.F from cs_nil)
theorem log_Log_write.sound : log_Log_write.c.ok Tryz.prog := by
  refine ⟨?_, Tryz.f74, log_Log_write.code, Tryz.func74, rfl, by decide⟩
  have h := fn_sound tt_ok mix_ok (x := log_Log_write.ann) (ins := log_Log_write.ins) (outs := log_Log_write.outs) (N := 32) Tryz.func74 (c := log_Log_write.code) rfl rfl (by kernel_rfl) (by kernel_rfl) log_Log_write.ok (by decide)
  rw [log_Log_write.eq] at h
  exact h

/-! ### (*wainwright/log.Log).apply$1: function 127 -/
noncomputable def log_Log_apply_1 : (((Bool × Int) × (Int × Int) × List (List UInt8) × List (Int × List UInt8)) × List (Int × List UInt8)) → Option (((Bool × Int) × (Int × Int) × List (List UInt8) × List (Int × List UInt8)) × Int) := fun (((o1b, o1c), (o2c, o2d), o3, o4), t1) =>
  (log_Log_write (((o1b, o1c), (o2c, o2d), o3, o4), t1)).bind fun (((r5, r5_2), (r5_3, r5_4), r5_5, r5_6), r5_7) =>
    some (((((r5, r5_2), (r5_3, r5_4), r5_5, r5_6), r5_7)))

def log_Log_apply_1.ins : Spec := ⟨6, 0, [.box (.cons (.ref 1) .nil), .box (.cons (.ref 2) (.cons (.v .bool) (.cons (.v I) .nil))), .box (.cons (.ref 3) (.cons (.ref 4) (.cons (.v I) (.cons (.v I) .nil)))), .arr .str, .map I .str], [0, 1], (.cons (.ref 0) (.cons (.v (.ptr (.sl (.st (.pair I .str))))) .nil))⟩
def log_Log_apply_1.outs : List Spec := [⟨6, 5, [.box (.cons (.ref 1) .nil), .box (.cons (.ref 2) (.cons (.v .bool) (.cons (.v I) .nil))), .box (.cons (.ref 3) (.cons (.ref 4) (.cons (.v I) (.cons (.v I) .nil)))), .arr .str, .map I .str], [2], (.cons (.v I) .nil)⟩]
noncomputable def log_Log_apply_1.c : Callee' := ⟨127, mkFits log_Log_apply_1.ins log_Log_apply_1.outs, mkFun log_Log_apply_1.ins log_Log_apply_1.outs log_Log_apply_1, mkFun_nat _ _ _⟩
noncomputable def log_Log_apply_1.ann : Ann :=
  (.seq (.reg []) (.seq (.reg [.std, .std, .call [log_Log_write.c]]) .std))
noncomputable def log_Log_apply_1.code : Code := match Tryz.f127.body with | some c => c | none => .skip
theorem log_Log_apply_1.eq : absFn tt 6 log_Log_apply_1.ins log_Log_apply_1.outs log_Log_apply_1.code log_Log_apply_1.ann = log_Log_apply_1 := by
  funext a
  kernel_rfl
theorem log_Log_apply_1.ok : log_Log_apply_1.ann.ok Tryz.prog 5 6 :=
  ann_ok (by kernel_rfl) (by kernel_rfl) (show ∀ c ∈ ([log_Log_write.c] : List Callee'), c.ok Tryz.prog from cs_cons log_Log_write.sound cs_nil)
    (show ∀ c ∈ ([] : List Callee'), FunQuiet c.F from cs_nil)
theorem log_Log_apply_1.sound : log_Log_apply_1.c.ok Tryz.prog := by
  refine ⟨?_, Tryz.f127, log_Log_apply_1.code, Tryz.func127, rfl, by decide⟩
  have h := fn_sound tt_ok mix_ok (x := log_Log_apply_1.ann) (ins := log_Log_apply_1.ins) (outs := log_Log_apply_1.outs) (N := 6) Tryz.func127 (c := log_Log_apply_1.code) rfl rfl (by kernel_rfl) (by kernel_rfl) log_Log_apply_1.ok (by decide)
  rw [log_Log_apply_1.eq] at h
  exact h

/-! ### wainwright/mould.Write: function 132 -/
noncomputable def mould_Write.l2 : (List Int × List Int × Int × Int × List Int × Int × Int) → Option ((List Int × List Int × Int × Int × List Int × Int × Int) ⊕ (List Int × List Int × List Int × Int × Int)) := fun (b6, widths0, v8, w9, t23, t24, t25) =>
  if decide (w9 > 0) = true then
    if roomOk (b6.length + (([IntKind.u8.wrap (v8)] : List Int)).length) 1 then
      some (.inl ((b6 ++ (([IntKind.u8.wrap (v8)] : List Int)), widths0, Int.fdiv v8 (2 ^ 8), IntKind.i64.wrap (w9 - 1), t23, t24, t25)))
    else none
  else
    some (.inr (((b6, widths0, t23, t24, t25))))

noncomputable def mould_Write.l1 : (List Int × List Int × List Int × Int × Int) → Option ((List Int × List Int × List Int × Int × Int) ⊕ ((List Int) ⊕ (List UInt8 × Int))) := fun (b6, widths0, t23, t24, t25) =>
  if decide (t25 < t24) = true then
    if 0 ≤ t25 ∧ t25 < (t23.length : Int) then
      if 0 ≤ t25 ∧ t25 < (widths0.length : Int) then
        if decide (t23.getD t25.toNat 0 < 0) = false then
          if 0 ≤ IntKind.i64.wrap (8 * (widths0.getD t25.toNat 0)) then
            if (Int.fdiv (t23.getD t25.toNat 0) (2 ^ (min (IntKind.i64.wrap (8 * (widths0.getD t25.toNat 0))).toNat 64)) != 0) = true then
              some (.inr (.inr ((([], 3)))))
            else
              (loopO mould_Write.l2 ((b6, widths0, t23.getD t25.toNat 0, widths0.getD t25.toNat 0, t23, t24, t25))).bind fun (b6, widths0, t23, t24, t25) =>
                some (.inl ((b6, widths0, t23, t24, IntKind.i64.wrap (t25 + 1))))
          else none
        else
          some (.inr (.inr ((([], 3)))))
      else none
    else none
  else
    some (.inr (.inl b6))

noncomputable def mould_Write : (List Int × List Int) → Option (List UInt8 × Int) := fun (widths0, values1) =>
  (mould_Size widths0).bind fun r11 =>
    if decide (r11 < 0) = false then
      if ((widths0.length : Int) != (values1.length : Int)) = true then
        some ((([], 1)))
      else
        (mould_Size widths0).bind fun r21 =>
          if 0 ≤ (0 : Int) ∧ (0 : Int) ≤ r21 ∧ r21 * (1 : Nat) ≤ 140737488355328 ∧ r21 ≤ 9223372036854775807 then
            (loopO mould_Write.l1 ((List.replicate 0 (0 : Int), widths0, values1, (values1.length : Int), 0))).bind fun d => match d with
            | .inl b6 =>
              some (((b6.map fun (n : Int) => UInt8.ofNat n.toNat, 0)))
            | .inr ((t4, t5)) =>
              some (((t4, t5)))
          else none
    else
      some ((([], 1)))

def mould_Write.ins : Spec := ⟨57, 0, [], [0, 1], (.cons (.v (.sl I)) (.cons (.v (.sl I)) .nil))⟩
def mould_Write.outs : List Spec := [⟨57, 0, [], [4, 5], (.cons (.v .str) (.cons (.v I) .nil))⟩]
noncomputable def mould_Write.c : Callee' := ⟨132, mkFits mould_Write.ins mould_Write.outs, mkFun mould_Write.ins mould_Write.outs mould_Write, mkFun_nat _ _ _⟩
theorem mould_Write.quiet : FunQuiet mould_Write.c.F := mkFun_quiet rfl rfl
noncomputable def mould_Write.ann : Ann :=
  (.seq (.reg []) (.seq (.seq (.reg [.std, .callq [mould_Size.c]]) (.cond (.seq (.reg []) .std) .std)) (.seq (.reg [.std, .callq [mould_Size.c], .obj (.int .u8)]) (.seq (.seq (.reg []) (.block (.loop ⟨57, 0, [.arr (.int .u8)], [0, 6, 23, 24, 25], (.cons (.v (.sl I)) (.cons (.ref 0) (.cons (.v (.sl I)) (.cons (.v I) (.cons (.v I) .nil)))))⟩ [(.exit 0, ⟨57, 0, [.arr (.int .u8)], [6], (.cons (.ref 0) .nil)⟩), (.ret, ⟨57, 0, [], [4, 5], (.cons (.v .str) (.cons (.v I) .nil))⟩)]
  (.seq (.reg []) (.seq (.cond .std .std) (.seq (.block (.seq (.reg []) (.seq (.reg []) (.seq (.seq (.reg []) (.cond (.seq (.reg []) .std) .std)) (.block (.loop ⟨57, 0, [.arr (.int .u8)], [0, 6, 8, 9, 23, 24, 25], (.cons (.v (.sl I)) (.cons (.ref 0) (.cons (.v I) (.cons (.v I) (.cons (.v (.sl I)) (.cons (.v I) (.cons (.v I) .nil)))))))⟩ [(.exit 2, ⟨57, 0, [.arr (.int .u8)], [0, 6, 23, 24, 25], (.cons (.v (.sl I)) (.cons (.ref 0) (.cons (.v (.sl I)) (.cons (.v I) (.cons (.v I) .nil)))))⟩)]
  (.seq (.seq (.reg []) (.cond .std .std)) (.seq (.block (.seq (.reg [.std, .std, .std, .inl (.int .u8), .obj (.int .u8)]) (.reg []))) (.reg []))))))))) (.reg []))))))) (.seq (.reg []) .std)))))
noncomputable def mould_Write.code : Code := match Tryz.f132.body with | some c => c | none => .skip
theorem mould_Write.eq : absFn tt 57 mould_Write.ins mould_Write.outs mould_Write.code mould_Write.ann = mould_Write := by
  funext a
  kernel_rfl
theorem mould_Write.ok : mould_Write.ann.ok Tryz.prog 0 57 :=
  ann_ok (by kernel_rfl) (by kernel_rfl) (show ∀ c ∈ ([mould_Size.c, mould_Size.c] : List Callee'), c.ok Tryz.prog from cs_cons mould_Size.sound (cs_cons mould_Size.sound cs_nil))
    (show ∀ c ∈ ([mould_Size.c, mould_Size.c] : List Callee'), FunQuiet c.F from cs_cons mould_Size.quiet (cs_cons mould_Size.quiet cs_nil))
theorem mould_Write.sound : mould_Write.c.ok Tryz.prog := by
  refine ⟨?_, Tryz.f132, mould_Write.code, Tryz.func132, rfl, by decide⟩
  have h := fn_sound tt_ok mix_ok (x := mould_Write.ann) (ins := mould_Write.ins) (outs := mould_Write.outs) (N := 57) Tryz.func132 (c := mould_Write.code) rfl rfl (by kernel_rfl) (by kernel_rfl) mould_Write.ok (by decide)
  rw [mould_Write.eq] at h
  exact h

/-! ### wainwright/log.headOf: function 76 -/
noncomputable def log_headOf : List Int → Option (List (Int × List UInt8)) := fun blocks0 =>
  (slices_Repeat_int_int (([2] : List Int), (blocks0.length : Int))).bind fun r9 =>
    (mould_Write (r9, blocks0)).bind fun (r11, r11_2) =>
      if ((([IntKind.u8.wrap ((blocks0.length : Int))] : List Int)).map fun (n : Int) => UInt8.ofNat n.toNat).length + r11.length ≤ 9223372036854775807 then
        (mould_Pad (((([IntKind.u8.wrap ((blocks0.length : Int))] : List Int)).map fun (n : Int) => UInt8.ofNat n.toNat) ++ r11, 128)).bind fun (r22, r22_2) =>
          some ((([(1, r22)] : List (Int × List UInt8))))
      else none

def log_headOf.ins : Spec := ⟨28, 0, [], [0], (.cons (.v (.sl I)) .nil)⟩
def log_headOf.outs : List Spec := [⟨28, 0, [], [2], (.cons (.v (.sl (.st (.pair I .str)))) .nil)⟩]
noncomputable def log_headOf.c : Callee' := ⟨76, mkFits log_headOf.ins log_headOf.outs, mkFun log_headOf.ins log_headOf.outs log_headOf, mkFun_nat _ _ _⟩
theorem log_headOf.quiet : FunQuiet log_headOf.c.F := mkFun_quiet rfl rfl
noncomputable def log_headOf.ann : Ann :=
  (.seq (.reg []) (.seq (.reg [.inl I, .std, .std, .callq [slices_Repeat_int_int.c], .std, .callq [mould_Write.c]]) (.seq (.reg [.std, .std, .std, .inl (.int .u8), .std, .std, .std, .callq [mould_Pad.c]]) (.seq (.reg [.std, .std, .inl (.st (.pair I .str))]) .std))))
noncomputable def log_headOf.code : Code := match Tryz.f76.body with | some c => c | none => .skip
theorem log_headOf.eq : absFn tt 28 log_headOf.ins log_headOf.outs log_headOf.code log_headOf.ann = log_headOf := by
  funext a
  kernel_rfl
theorem log_headOf.ok : log_headOf.ann.ok Tryz.prog 0 28 :=
  ann_ok (by kernel_rfl) (by kernel_rfl) (show ∀ c ∈ ([slices_Repeat_int_int.c, mould_Write.c, mould_Pad.c] : List Callee'), c.ok Tryz.prog from cs_cons slices_Repeat_int_int.sound (cs_cons mould_Write.sound (cs_cons mould_Pad.sound cs_nil)))
    (show ∀ c ∈ ([slices_Repeat_int_int.c, mould_Write.c, mould_Pad.c] : List Callee'), FunQuiet c.F from cs_cons slices_Repeat_int_int.quiet (cs_cons mould_Write.quiet (cs_cons mould_Pad.quiet cs_nil)))
theorem log_headOf.sound : log_headOf.c.ok Tryz.prog := by
  refine ⟨?_, Tryz.f76, log_headOf.code, Tryz.func76, rfl, by decide⟩
  have h := fn_sound tt_ok mix_ok (x := log_headOf.ann) (ins := log_headOf.ins) (outs := log_headOf.outs) (N := 28) Tryz.func76 (c := log_headOf.code) rfl rfl (by kernel_rfl) (by kernel_rfl) log_headOf.ok (by decide)
  rw [log_headOf.eq] at h
  exact h

/-! ### (*wainwright/log.Log).apply$2: function 128 -/
noncomputable def log_Log_apply_2 : ((Bool × Int) × (Int × Int) × List (List UInt8) × List (Int × List UInt8)) → Option (((Bool × Int) × (Int × Int) × List (List UInt8) × List (Int × List UInt8)) × Int) := fun ((o1b, o1c), (o2c, o2d), o3, o4) =>
  (log_headOf ([] : List Int)).bind fun r3 =>
    (log_Log_write (((o1b, o1c), (o2c, o2d), o3, o4), r3)).bind fun (((r4, r4_2), (r4_3, r4_4), r4_5, r4_6), r4_7) =>
      some (((((r4, r4_2), (r4_3, r4_4), r4_5, r4_6), r4_7)))

def log_Log_apply_2.ins : Spec := ⟨5, 0, [.box (.cons (.ref 1) .nil), .box (.cons (.ref 2) (.cons (.v .bool) (.cons (.v I) .nil))), .box (.cons (.ref 3) (.cons (.ref 4) (.cons (.v I) (.cons (.v I) .nil)))), .arr .str, .map I .str], [0], (.cons (.ref 0) .nil)⟩
def log_Log_apply_2.outs : List Spec := [⟨5, 5, [.box (.cons (.ref 1) .nil), .box (.cons (.ref 2) (.cons (.v .bool) (.cons (.v I) .nil))), .box (.cons (.ref 3) (.cons (.ref 4) (.cons (.v I) (.cons (.v I) .nil)))), .arr .str, .map I .str], [1], (.cons (.v I) .nil)⟩]
noncomputable def log_Log_apply_2.c : Callee' := ⟨128, mkFits log_Log_apply_2.ins log_Log_apply_2.outs, mkFun log_Log_apply_2.ins log_Log_apply_2.outs log_Log_apply_2, mkFun_nat _ _ _⟩
noncomputable def log_Log_apply_2.ann : Ann :=
  (.seq (.reg []) (.seq (.drw [.std, .callq [log_headOf.c], .call [log_Log_write.c]]) .std))
noncomputable def log_Log_apply_2.code : Code := match Tryz.f128.body with | some c => c | none => .skip
theorem log_Log_apply_2.eq : absFn tt 5 log_Log_apply_2.ins log_Log_apply_2.outs log_Log_apply_2.code log_Log_apply_2.ann = log_Log_apply_2 := by
  funext a
  kernel_rfl
theorem log_Log_apply_2.ok : log_Log_apply_2.ann.ok Tryz.prog 5 5 :=
  ann_ok (by kernel_rfl) (by kernel_rfl) (show ∀ c ∈ ([log_headOf.c, log_Log_write.c] : List Callee'), c.ok Tryz.prog from cs_cons log_headOf.sound (cs_cons log_Log_write.sound cs_nil))
    (show ∀ c ∈ ([log_headOf.c] : List Callee'), FunQuiet c.F from cs_cons log_headOf.quiet cs_nil)
theorem log_Log_apply_2.sound : log_Log_apply_2.c.ok Tryz.prog := by
  refine ⟨?_, Tryz.f128, log_Log_apply_2.code, Tryz.func128, rfl, by decide⟩
  have h := fn_sound tt_ok mix_ok (x := log_Log_apply_2.ann) (ins := log_Log_apply_2.ins) (outs := log_Log_apply_2.outs) (N := 5) Tryz.func128 (c := log_Log_apply_2.code) rfl rfl (by kernel_rfl) (by kernel_rfl) log_Log_apply_2.ok (by decide)
  rw [log_Log_apply_2.eq] at h
  exact h

/-! ### wainwright/log.all: function 72 -/
noncomputable def log_all : ((List (Int × List UInt8)) × (Bool × Int) × (Int × Int) × List (List UInt8) × List (Int × List UInt8)) → Option (((List (Int × List UInt8)) × (Bool × Int) × (Int × Int) × List (List UInt8) × List (Int × List UInt8)) × Int) := fun (o1, (o2b, o2c), (o3c, o3d), o4, o5) =>
  (log_Log_apply_1 (((o2b, o2c), (o3c, o3d), o4, o5), o1)).bind fun (((r13, r13_2), (r13_3, r13_4), r13_5, r13_6), r13_7) =>
    if (r13_7 != 0) = true then
      some ((((o1, (r13, r13_2), (r13_3, r13_4), r13_5, r13_6), r13_7)))
    else
      (log_Log_apply_2 ((r13, r13_2), (r13_3, r13_4), r13_5, r13_6)).bind fun (((r13a, r13a_2), (r13a_3, r13a_4), r13a_5, r13a_6), r13a_7) =>
        if (r13a_7 != 0) = true then
          some ((((o1, (r13a, r13a_2), (r13a_3, r13a_4), r13a_5, r13a_6), r13a_7)))
        else
          some ((((o1, (r13a, r13a_2), (r13a_3, r13a_4), r13a_5, r13a_6), 0)))

def log_all.ins : Spec := ⟨18, 0, [.box (.cons (.ref 2) .nil), .box (.cons (.v (.sl (.st (.pair I .str)))) .nil), .box (.cons (.ref 3) (.cons (.v .bool) (.cons (.v I) .nil))), .box (.cons (.ref 4) (.cons (.ref 5) (.cons (.v I) (.cons (.v I) .nil)))), .arr .str, .map I .str], [0], (.cons (.fsl (.cons (.fn (.func 127) .nil (.cons (.ref 0) (.cons (.ref 1) .nil))) (.cons (.fn (.func 128) .nil (.cons (.ref 0) .nil)) .nil))) .nil)⟩
def log_all.outs : List Spec := [⟨18, 6, [.box (.cons (.ref 2) .nil), .box (.cons (.v (.sl (.st (.pair I .str)))) .nil), .box (.cons (.ref 3) (.cons (.v .bool) (.cons (.v I) .nil))), .box (.cons (.ref 4) (.cons (.ref 5) (.cons (.v I) (.cons (.v I) .nil)))), .arr .str, .map I .str], [2], (.cons (.v I) .nil)⟩]
noncomputable def log_all.c : Callee' := ⟨72, mkFits log_all.ins log_all.outs, mkFun log_all.ins log_all.outs log_all, mkFun_nat _ _ _⟩
noncomputable def log_all.ann : Ann :=
  (.seq (.reg []) (.seq (.seq (.reg []) (.block (.unroll (.seq (.reg []) (.seq (.cond .std .std) (.seq (.block (.seq (.reg []) (.seq (.reg [.std, .call [log_Log_apply_1.c, log_Log_apply_2.c]]) (.seq (.reg []) (.cond (.seq (.reg []) .std) .std))))) (.reg [])))) (.unroll (.seq (.reg []) (.seq (.cond .std .std) (.seq (.block (.seq (.reg []) (.seq (.reg [.std, .call [log_Log_apply_1.c, log_Log_apply_2.c]]) (.seq (.reg []) (.cond (.seq (.reg []) .std) .std))))) (.reg [])))) (.unroll (.seq (.reg []) (.seq (.cond .std .std) (.seq (.block (.seq (.reg []) (.seq (.reg [.std, .call [log_Log_apply_1.c, log_Log_apply_2.c]]) (.seq (.reg []) (.cond (.seq (.reg []) .std) .std))))) (.reg [])))) .std))))) (.seq (.reg []) .std)))
noncomputable def log_all.code : Code := match Tryz.f72.body with | some c => c | none => .skip
theorem log_all.eq : absFn tt 18 log_all.ins log_all.outs log_all.code log_all.ann = log_all := by
  funext a
  kernel_rfl
theorem log_all.ok : log_all.ann.ok Tryz.prog 6 18 :=
  ann_ok (by kernel_rfl) (by kernel_rfl) (show ∀ c ∈ ([log_Log_apply_1.c, log_Log_apply_2.c, log_Log_apply_1.c, log_Log_apply_2.c, log_Log_apply_1.c, log_Log_apply_2.c] : List Callee'), c.ok Tryz.prog from cs_cons log_Log_apply_1.sound (cs_cons log_Log_apply_2.sound (cs_cons log_Log_apply_1.sound (cs_cons log_Log_apply_2.sound (cs_cons log_Log_apply_1.sound (cs_cons log_Log_apply_2.sound cs_nil))))))
    (show ∀ c ∈ ([] : List Callee'), FunQuiet c.F from cs_nil)
theorem log_all.sound : log_all.c.ok Tryz.prog := by
  refine ⟨?_, Tryz.f72, log_all.code, Tryz.func72, rfl, by decide⟩
  have h := fn_sound tt_ok mix_ok (x := log_all.ann) (ins := log_all.ins) (outs := log_all.outs) (N := 18) Tryz.func72 (c := log_all.code) rfl rfl (by kernel_rfl) (by kernel_rfl) log_all.ok (by decide)
  rw [log_all.eq] at h
  exact h

/-! ### (*wainwright/log.Log).apply: function 69 -/
noncomputable def log_Log_apply : (((Bool × Int) × (Int × Int) × List (List UInt8) × List (Int × List UInt8)) × List (Int × List UInt8)) → Option (((Bool × Int) × (Int × Int) × List (List UInt8) × List (Int × List UInt8)) × Int) := fun (((l0b, l0c), (o1c, o1d), o2, o3), c1) =>
  (log_all (c1, (l0b, l0c), (o1c, o1d), o2, o3)).bind fun ((r8, (r8_2, r8_3), (r8_4, r8_5), r8_6, r8_7), r8_8) =>
    some (((((r8_2, r8_3), (r8_4, r8_5), r8_6, r8_7), r8_8)))

def log_Log_apply.ins : Spec := ⟨9, 0, [.box (.cons (.ref 1) (.cons (.v .bool) (.cons (.v I) .nil))), .box (.cons (.ref 2) (.cons (.ref 3) (.cons (.v I) (.cons (.v I) .nil)))), .arr .str, .map I .str], [0, 1], (.cons (.ref 0) (.cons (.v (.sl (.st (.pair I .str)))) .nil))⟩
def log_Log_apply.outs : List Spec := [⟨9, 4, [.box (.cons (.ref 1) (.cons (.v .bool) (.cons (.v I) .nil))), .box (.cons (.ref 2) (.cons (.ref 3) (.cons (.v I) (.cons (.v I) .nil)))), .arr .str, .map I .str], [4], (.cons (.v I) .nil)⟩]
noncomputable def log_Log_apply.c : Callee' := ⟨69, mkFits log_Log_apply.ins log_Log_apply.outs, mkFun log_Log_apply.ins log_Log_apply.outs log_Log_apply, mkFun_nat _ _ _⟩
noncomputable def log_Log_apply.ann : Ann :=
  (.seq (.reg []) (.seq (.reg [.std, .std, .std, .call [log_all.c]]) .std))
noncomputable def log_Log_apply.code : Code := match Tryz.f69.body with | some c => c | none => .skip
theorem log_Log_apply.eq : absFn tt 9 log_Log_apply.ins log_Log_apply.outs log_Log_apply.code log_Log_apply.ann = log_Log_apply := by
  funext a
  kernel_rfl
theorem log_Log_apply.ok : log_Log_apply.ann.ok Tryz.prog 4 9 :=
  ann_ok (by kernel_rfl) (by kernel_rfl) (show ∀ c ∈ ([log_all.c] : List Callee'), c.ok Tryz.prog from cs_cons log_all.sound cs_nil)
    (show ∀ c ∈ ([] : List Callee'), FunQuiet c.F from cs_nil)
theorem log_Log_apply.sound : log_Log_apply.c.ok Tryz.prog := by
  refine ⟨?_, Tryz.f69, log_Log_apply.code, Tryz.func69, rfl, by decide⟩
  have h := fn_sound tt_ok mix_ok (x := log_Log_apply.ann) (ins := log_Log_apply.ins) (outs := log_Log_apply.outs) (N := 9) Tryz.func69 (c := log_Log_apply.code) rfl rfl (by kernel_rfl) (by kernel_rfl) log_Log_apply.ok (by decide)
  rw [log_Log_apply.eq] at h
  exact h

/-! ### wainwright/log.Open: function 16 -/
noncomputable def log_Open : ((Int × Int) × List (List UInt8) × List (Int × List UInt8)) → Option ((((Int × Int) × List (List UInt8) × List (Int × List UInt8)) × Int) ⊕ (((Int × Int) × List (List UInt8) × (List (Int × List UInt8)) × Bool × Int) × Int)) := fun ((s0c, s0d), o1, o2) =>
  (slab_Slab_Size (o1, o2, s0c, s0d)).bind fun r12 =>
    if decide (r12 < 64) = true then
      some (.inl ((((s0c, s0d), o1, o2), 1)))
    else
      (log_Log_read_2 ((false, 0), (s0c, s0d), o1, o2)).bind fun (((r20, r20_2), (r20_3, r20_4), r20_5, r20_6), r20_7, r20_8) =>
        if (!r20_8) = true then
          some (.inl ((((r20_3, r20_4), r20_5, r20_6), 15)))
        else
          if decide ((r20_7.length : Int) > 0) = true then
            (log_Log_apply (((r20, r20_2), (r20_3, r20_4), r20_5, r20_6), r20_7)).bind fun (((r30, r30_2), (r30_3, r30_4), r30_5, r30_6), r30_7) =>
              if (r30_7 != 0) = true then
                some (.inl ((((r30_3, r30_4), r30_5, r30_6), r30_7)))
              else
                some (.inr (((((r30_3, r30_4), r30_5, r30_6, r30, r30_2), 0))))
          else
            some (.inr (((((r20_3, r20_4), r20_5, r20_6, r20, r20_2), 0))))

def log_Open.ins : Spec := ⟨35, 0, [.box (.cons (.ref 1) (.cons (.ref 2) (.cons (.v I) (.cons (.v I) .nil)))), .arr .str, .map I .str], [0], (.cons (.ref 0) .nil)⟩
def log_Open.outs : List Spec := [⟨35, 3, [.box (.cons (.ref 1) (.cons (.ref 2) (.cons (.v I) (.cons (.v I) .nil)))), .arr .str, .map I .str], [2, 3], (.cons (.nilptr) (.cons (.v I) .nil))⟩, ⟨35, 3, [.box (.cons (.ref 1) (.cons (.ref 2) (.cons (.v I) (.cons (.v I) .nil)))), .arr .str, .map I .str, .box (.cons (.ref 0) (.cons (.v .bool) (.cons (.v I) .nil)))], [2, 3], (.cons (.ref 3) (.cons (.v I) .nil))⟩]
noncomputable def log_Open.c : Callee' := ⟨16, mkFits log_Open.ins log_Open.outs, mkFun log_Open.ins log_Open.outs log_Open, mkFun_nat _ _ _⟩
noncomputable def log_Open.ann : Ann :=
  (.seq (.reg []) (.seq (.seq (.reg [.std, .obj .bool, .std, .std, .callq [slab_Slab_Size.c]]) (.cond (.seq (.reg []) .std) .std)) (.seq (.reg []) (.seq (.reg [.std, .call [log_Log_read_2.c]]) (.seq (.seq (.reg []) (.cond (.seq (.reg []) .std) .std)) (.seq (.seq (.reg []) (.cond (.seq (.reg [.std, .std, .call [log_Log_apply.c]]) (.seq (.reg []) (.cond (.seq (.reg []) .std) .std))) .std)) (.seq (.reg []) .std)))))))
noncomputable def log_Open.code : Code := match Tryz.f16.body with | some c => c | none => .skip
theorem log_Open.eq : absFn tt 35 log_Open.ins log_Open.outs log_Open.code log_Open.ann = log_Open := by
  funext a
  kernel_rfl
theorem log_Open.ok : log_Open.ann.ok Tryz.prog 3 35 :=
  ann_ok (by kernel_rfl) (by kernel_rfl) (show ∀ c ∈ ([slab_Slab_Size.c, log_Log_read_2.c, log_Log_apply.c] : List Callee'), c.ok Tryz.prog from cs_cons slab_Slab_Size.sound (cs_cons log_Log_read_2.sound (cs_cons log_Log_apply.sound cs_nil)))
    (show ∀ c ∈ ([slab_Slab_Size.c] : List Callee'), FunQuiet c.F from cs_cons slab_Slab_Size.quiet cs_nil)
theorem log_Open.sound : log_Open.c.ok Tryz.prog := by
  refine ⟨?_, Tryz.f16, log_Open.code, Tryz.func16, rfl, by decide⟩
  have h := fn_sound tt_ok mix_ok (x := log_Open.ann) (ins := log_Open.ins) (outs := log_Open.outs) (N := 35) Tryz.func16 (c := log_Open.code) rfl rfl (by kernel_rfl) (by kernel_rfl) log_Open.ok (by decide)
  rw [log_Open.eq] at h
  exact h

/-! ### wainwright/deal.Begin: function 46 -/
noncomputable def deal_Begin : Unit → Option (Int) := fun _ =>
  some 1

def deal_Begin.ins : Spec := ⟨11, 0, [], [0], (.cons (.nilptr) .nil)⟩
def deal_Begin.outs : List Spec := [⟨11, 0, [], [2, 3], (.cons (.nilptr) (.cons (.v I) .nil))⟩]
noncomputable def deal_Begin.c : Callee' := ⟨46, mkFits deal_Begin.ins deal_Begin.outs, mkFun deal_Begin.ins deal_Begin.outs deal_Begin, mkFun_nat _ _ _⟩
theorem deal_Begin.quiet : FunQuiet deal_Begin.c.F := mkFun_quiet rfl rfl
noncomputable def deal_Begin.ann : Ann :=
  (.seq (.reg []) (.seq (.seq (.reg [.std, .obj .bool]) (.cond (.seq (.reg []) .std) .std)) (.seq (.reg [.std, .mp I .str]) .std)))
noncomputable def deal_Begin.code : Code := match Tryz.f46.body with | some c => c | none => .skip
theorem deal_Begin.eq : absFn tt 11 deal_Begin.ins deal_Begin.outs deal_Begin.code deal_Begin.ann = deal_Begin := by
  funext a
  kernel_rfl
theorem deal_Begin.ok : deal_Begin.ann.ok Tryz.prog 0 11 :=
  ann_ok (by kernel_rfl) (by kernel_rfl) (show ∀ c ∈ ([] : List Callee'), c.ok Tryz.prog from cs_nil)
    (show ∀ c ∈ ([] : List Callee'), FunQuiet c.F from cs_nil)
theorem deal_Begin.sound : deal_Begin.c.ok Tryz.prog := by
  refine ⟨?_, Tryz.f46, deal_Begin.code, Tryz.func46, rfl, by decide⟩
  have h := fn_sound tt_ok mix_ok (x := deal_Begin.ann) (ins := deal_Begin.ins) (outs := deal_Begin.outs) (N := 11) Tryz.func46 (c := deal_Begin.code) rfl rfl (by kernel_rfl) (by kernel_rfl) deal_Begin.ok (by decide)
  rw [deal_Begin.eq] at h
  exact h

/-! ### wainwright/wainwrightref01.Zeros: function 83 -/
noncomputable def wainwrightref01_Zeros : Int → Option (List UInt8) := fun n0 =>
  if 0 ≤ n0 ∧ n0 ≤ n0 ∧ n0 * (1 : Nat) ≤ 140737488355328 ∧ n0 ≤ 9223372036854775807 then
    some (((List.replicate n0.toNat (0 : Int)).map fun (n : Int) => UInt8.ofNat n.toNat))
  else none

def wainwrightref01_Zeros.ins : Spec := ⟨6, 0, [], [0], (.cons (.v I) .nil)⟩
def wainwrightref01_Zeros.outs : List Spec := [⟨6, 0, [], [2], (.cons (.v .str) .nil)⟩]
noncomputable def wainwrightref01_Zeros.c : Callee' := ⟨83, mkFits wainwrightref01_Zeros.ins wainwrightref01_Zeros.outs, mkFun wainwrightref01_Zeros.ins wainwrightref01_Zeros.outs wainwrightref01_Zeros, mkFun_nat _ _ _⟩
theorem wainwrightref01_Zeros.quiet : FunQuiet wainwrightref01_Zeros.c.F := mkFun_quiet rfl rfl
noncomputable def wainwrightref01_Zeros.ann : Ann :=
  (.seq (.reg []) (.seq (.reg [.std, .obj (.int .u8)]) .std))
noncomputable def wainwrightref01_Zeros.code : Code := match Tryz.f83.body with | some c => c | none => .skip
theorem wainwrightref01_Zeros.eq : absFn tt 6 wainwrightref01_Zeros.ins wainwrightref01_Zeros.outs wainwrightref01_Zeros.code wainwrightref01_Zeros.ann = wainwrightref01_Zeros := by
  funext a
  kernel_rfl
theorem wainwrightref01_Zeros.ok : wainwrightref01_Zeros.ann.ok Tryz.prog 0 6 :=
  ann_ok (by kernel_rfl) (by kernel_rfl) (show ∀ c ∈ ([] : List Callee'), c.ok Tryz.prog from cs_nil)
    (show ∀ c ∈ ([] : List Callee'), FunQuiet c.F from cs_nil)
theorem wainwrightref01_Zeros.sound : wainwrightref01_Zeros.c.ok Tryz.prog := by
  refine ⟨?_, Tryz.f83, wainwrightref01_Zeros.code, Tryz.func83, rfl, by decide⟩
  have h := fn_sound tt_ok mix_ok (x := wainwrightref01_Zeros.ann) (ins := wainwrightref01_Zeros.ins) (outs := wainwrightref01_Zeros.outs) (N := 6) Tryz.func83 (c := wainwrightref01_Zeros.code) rfl rfl (by kernel_rfl) (by kernel_rfl) wainwrightref01_Zeros.ok (by decide)
  rw [wainwrightref01_Zeros.eq] at h
  exact h

/-! ### wainwright/wainwrightref02.Whole: function 31 -/
noncomputable def wainwrightref02_Whole : List UInt8 → Option (List UInt8) := fun s0 =>
  if 0 ≤ (if 128 < (s0.length : Int) then 128 else (s0.length : Int)) ∧ (if 128 < (s0.length : Int) then 128 else (s0.length : Int)) ≤ (s0.length : Int) then
    (wainwrightref01_Zeros (IntKind.i64.wrap (128 - ((s0.take ((if 128 < (s0.length : Int) then 128 else (s0.length : Int))).toNat).length : Int)))).bind fun r12 =>
      if (s0.take ((if 128 < (s0.length : Int) then 128 else (s0.length : Int))).toNat).length + r12.length ≤ 9223372036854775807 then
        some (((s0.take ((if 128 < (s0.length : Int) then 128 else (s0.length : Int))).toNat) ++ r12))
      else none
  else none

def wainwrightref02_Whole.ins : Spec := ⟨14, 0, [], [0], (.cons (.v .str) .nil)⟩
def wainwrightref02_Whole.outs : List Spec := [⟨14, 0, [], [2], (.cons (.v .str) .nil)⟩]
noncomputable def wainwrightref02_Whole.c : Callee' := ⟨31, mkFits wainwrightref02_Whole.ins wainwrightref02_Whole.outs, mkFun wainwrightref02_Whole.ins wainwrightref02_Whole.outs wainwrightref02_Whole, mkFun_nat _ _ _⟩
theorem wainwrightref02_Whole.quiet : FunQuiet wainwrightref02_Whole.c.F := mkFun_quiet rfl rfl
noncomputable def wainwrightref02_Whole.ann : Ann :=
  (.seq (.reg []) (.seq (.reg []) (.seq (.reg [.std, .std, .std, .std, .callq [wainwrightref01_Zeros.c]]) .std)))
noncomputable def wainwrightref02_Whole.code : Code := match Tryz.f31.body with | some c => c | none => .skip
theorem wainwrightref02_Whole.eq : absFn tt 14 wainwrightref02_Whole.ins wainwrightref02_Whole.outs wainwrightref02_Whole.code wainwrightref02_Whole.ann = wainwrightref02_Whole := by
  funext a
  kernel_rfl
theorem wainwrightref02_Whole.ok : wainwrightref02_Whole.ann.ok Tryz.prog 0 14 :=
  ann_ok (by kernel_rfl) (by kernel_rfl) (show ∀ c ∈ ([wainwrightref01_Zeros.c] : List Callee'), c.ok Tryz.prog from cs_cons wainwrightref01_Zeros.sound cs_nil)
    (show ∀ c ∈ ([wainwrightref01_Zeros.c] : List Callee'), FunQuiet c.F from cs_cons wainwrightref01_Zeros.quiet cs_nil)
theorem wainwrightref02_Whole.sound : wainwrightref02_Whole.c.ok Tryz.prog := by
  refine ⟨?_, Tryz.f31, wainwrightref02_Whole.code, Tryz.func31, rfl, by decide⟩
  have h := fn_sound tt_ok mix_ok (x := wainwrightref02_Whole.ann) (ins := wainwrightref02_Whole.ins) (outs := wainwrightref02_Whole.outs) (N := 14) Tryz.func31 (c := wainwrightref02_Whole.code) rfl rfl (by kernel_rfl) (by kernel_rfl) wainwrightref02_Whole.ok (by decide)
  rw [wainwrightref02_Whole.eq] at h
  exact h

/-! ### wainwright/wainwrightref03.Is: function 148 -/
noncomputable def wainwrightref03_Is.l1 : (Int × Int × Int) → Option ((Int × Int × Int) ⊕ Int) := fun (i1, x5, k6) =>
  if decide (k6 < Int.tmod i1 8) = true then
    some (.inl ((i1, IntKind.i64.wrap (Int.tdiv x5 2), IntKind.i64.wrap (k6 + 1))))
  else
    some (.inr x5)

noncomputable def wainwrightref03_Is : (List UInt8 × Int) → Option (Bool) := fun (m0, i1) =>
  if decide (i1 < 0) = false then
    if decide (i1 ≥ IntKind.i64.wrap (8 * (m0.length : Int))) = true then
      some true
    else
      if 0 ≤ IntKind.i64.wrap (Int.tdiv i1 8) ∧ IntKind.i64.wrap (Int.tdiv i1 8) < (m0.length : Int) then
        (loopO wainwrightref03_Is.l1 ((i1, IntKind.i64.wrap (((m0.getD ((IntKind.i64.wrap (Int.tdiv i1 8)).toNat) 0).toNat : Int)), 0))).bind fun x5 =>
          some (((Int.tmod x5 2 == 1)))
      else none
  else
    some true

def wainwrightref03_Is.ins : Spec := ⟨32, 0, [], [0, 1], (.cons (.v .str) (.cons (.v I) .nil))⟩
def wainwrightref03_Is.outs : List Spec := [⟨32, 0, [], [4], (.cons (.v .bool) .nil)⟩]
noncomputable def wainwrightref03_Is.c : Callee' := ⟨148, mkFits wainwrightref03_Is.ins wainwrightref03_Is.outs, mkFun wainwrightref03_Is.ins wainwrightref03_Is.outs wainwrightref03_Is, mkFun_nat _ _ _⟩
theorem wainwrightref03_Is.quiet : FunQuiet wainwrightref03_Is.c.F := mkFun_quiet rfl rfl
noncomputable def wainwrightref03_Is.ann : Ann :=
  (.seq (.reg []) (.seq (.seq (.reg []) (.cond (.seq (.reg []) .std) .std)) (.seq (.reg []) (.seq (.seq (.reg []) (.block (.loop ⟨32, 0, [], [1, 5, 6], (.cons (.v I) (.cons (.v I) (.cons (.v I) .nil)))⟩ [(.exit 0, ⟨32, 0, [], [5], (.cons (.v I) .nil)⟩)]
  (.seq (.seq (.reg []) (.cond .std .std)) (.seq (.block (.reg [])) (.reg [])))))) (.seq (.reg []) .std)))))
noncomputable def wainwrightref03_Is.code : Code := match Tryz.f148.body with | some c => c | none => .skip
theorem wainwrightref03_Is.eq : absFn tt 32 wainwrightref03_Is.ins wainwrightref03_Is.outs wainwrightref03_Is.code wainwrightref03_Is.ann = wainwrightref03_Is := by
  funext a
  kernel_rfl
theorem wainwrightref03_Is.ok : wainwrightref03_Is.ann.ok Tryz.prog 0 32 :=
  ann_ok (by kernel_rfl) (by kernel_rfl) (show ∀ c ∈ ([] : List Callee'), c.ok Tryz.prog from cs_nil)
    (show ∀ c ∈ ([] : List Callee'), FunQuiet c.F from cs_nil)
theorem wainwrightref03_Is.sound : wainwrightref03_Is.c.ok Tryz.prog := by
  refine ⟨?_, Tryz.f148, wainwrightref03_Is.code, Tryz.func148, rfl, by decide⟩
  have h := fn_sound tt_ok mix_ok (x := wainwrightref03_Is.ann) (ins := wainwrightref03_Is.ins) (outs := wainwrightref03_Is.outs) (N := 32) Tryz.func148 (c := wainwrightref03_Is.code) rfl rfl (by kernel_rfl) (by kernel_rfl) wainwrightref03_Is.ok (by decide)
  rw [wainwrightref03_Is.eq] at h
  exact h

/-! ### wainwright/wainwrightref03.Set: function 137 -/
noncomputable def wainwrightref03_Set : (List UInt8 × Int × Bool) → Option (List UInt8) := fun (m0, i1, yes2) =>
  if decide (i1 < 0) = false then
    if decide (i1 ≥ IntKind.i64.wrap (8 * (m0.length : Int))) = false then
      (wainwrightref03_Is (m0, i1)).bind fun r20 =>
        if (r20 == yes2) = true then
          some m0
        else
          if 0 ≤ IntKind.i64.wrap (Int.tdiv i1 8) ∧ IntKind.i64.wrap (Int.tdiv i1 8) < ((m0.map fun b => (b.toNat : Int)).length : Int) then
            if 0 ≤ IntKind.u64.wrap (Int.tmod i1 8) then
              if 0 ≤ IntKind.i64.wrap (Int.tdiv i1 8) ∧ IntKind.i64.wrap (Int.tdiv i1 8) < ((m0.map fun b => (b.toNat : Int)).length : Int) then
                some ((((m0.map fun b => (b.toNat : Int)).set ((IntKind.i64.wrap (Int.tdiv i1 8)).toNat) (bitsOp .xor .u8 ((m0.map fun b => (b.toNat : Int)).getD ((IntKind.i64.wrap (Int.tdiv i1 8)).toNat) 0) (IntKind.u8.wrap (1 * 2 ^ (min (IntKind.u64.wrap (Int.tmod i1 8)).toNat 8))))).map fun (n : Int) => UInt8.ofNat n.toNat))
              else none
            else none
          else none
    else
      some m0
  else
    some m0

def wainwrightref03_Set.ins : Spec := ⟨40, 0, [], [0, 1, 2], (.cons (.v .str) (.cons (.v I) (.cons (.v .bool) .nil)))⟩
def wainwrightref03_Set.outs : List Spec := [⟨40, 0, [], [6], (.cons (.v .str) .nil)⟩]
noncomputable def wainwrightref03_Set.c : Callee' := ⟨137, mkFits wainwrightref03_Set.ins wainwrightref03_Set.outs, mkFun wainwrightref03_Set.ins wainwrightref03_Set.outs wainwrightref03_Set, mkFun_nat _ _ _⟩
theorem wainwrightref03_Set.quiet : FunQuiet wainwrightref03_Set.c.F := mkFun_quiet rfl rfl
noncomputable def wainwrightref03_Set.ann : Ann :=
  (.seq (.reg []) (.seq (.seq (.reg [.std, .std, .std, .std, .std, .std, .std, .std, .std, .std, .std, .std, .callq [wainwrightref03_Is.c]]) (.cond (.seq (.reg []) .std) .std)) (.seq (.reg [.std, .obj (.int .u8)]) (.seq (.reg []) (.seq (.reg []) .std)))))
noncomputable def wainwrightref03_Set.code : Code := match Tryz.f137.body with | some c => c | none => .skip
theorem wainwrightref03_Set.eq : absFn tt 40 wainwrightref03_Set.ins wainwrightref03_Set.outs wainwrightref03_Set.code wainwrightref03_Set.ann = wainwrightref03_Set := by
  funext a
  kernel_rfl
theorem wainwrightref03_Set.ok : wainwrightref03_Set.ann.ok Tryz.prog 0 40 :=
  ann_ok (by kernel_rfl) (by kernel_rfl) (show ∀ c ∈ ([wainwrightref03_Is.c] : List Callee'), c.ok Tryz.prog from cs_cons wainwrightref03_Is.sound cs_nil)
    (show ∀ c ∈ ([wainwrightref03_Is.c] : List Callee'), FunQuiet c.F from cs_cons wainwrightref03_Is.quiet cs_nil)
theorem wainwrightref03_Set.sound : wainwrightref03_Set.c.ok Tryz.prog := by
  refine ⟨?_, Tryz.f137, wainwrightref03_Set.code, Tryz.func137, rfl, by decide⟩
  have h := fn_sound tt_ok mix_ok (x := wainwrightref03_Set.ann) (ins := wainwrightref03_Set.ins) (outs := wainwrightref03_Set.outs) (N := 40) Tryz.func137 (c := wainwrightref03_Set.code) rfl rfl (by kernel_rfl) (by kernel_rfl) wainwrightref03_Set.ok (by decide)
  rw [wainwrightref03_Set.eq] at h
  exact h

/-! ### wainwright/wainwrightref10.Marks: function 86 -/
noncomputable def wainwrightref10_Marks.l1 : (Int × List UInt8 × Int) → Option ((Int × List UInt8 × Int) ⊕ (List UInt8)) := fun (blocks0, m3, i4) =>
  if decide (i4 < 1024) = true then
    ((
      if decide (i4 < 51) = false then
        some (((blocks0, m3, i4, decide (i4 ≥ blocks0))))
      else
        some (((blocks0, m3, i4, true)))) : Option (Int × List UInt8 × Int × Bool)).bind fun (blocks0, m3, i4, t16) =>
      if t16 = true then
        (wainwrightref03_Set (m3, i4, true)).bind fun r19 =>
          some (.inl ((blocks0, r19, IntKind.i64.wrap (i4 + 1))))
      else
        some (.inl ((blocks0, m3, IntKind.i64.wrap (i4 + 1))))
  else
    some (.inr m3)

noncomputable def wainwrightref10_Marks : Int → Option (List UInt8) := fun blocks0 =>
  (wainwrightref02_Whole []).bind fun r5 =>
    (loopO wainwrightref10_Marks.l1 ((blocks0, r5, 0))).bind fun m3 =>
      some m3

def wainwrightref10_Marks.ins : Spec := ⟨21, 0, [], [0], (.cons (.v I) .nil)⟩
def wainwrightref10_Marks.outs : List Spec := [⟨21, 0, [], [2], (.cons (.v .str) .nil)⟩]
noncomputable def wainwrightref10_Marks.c : Callee' := ⟨86, mkFits wainwrightref10_Marks.ins wainwrightref10_Marks.outs, mkFun wainwrightref10_Marks.ins wainwrightref10_Marks.outs wainwrightref10_Marks, mkFun_nat _ _ _⟩
theorem wainwrightref10_Marks.quiet : FunQuiet wainwrightref10_Marks.c.F := mkFun_quiet rfl rfl
noncomputable def wainwrightref10_Marks.ann : Ann :=
  (.seq (.reg []) (.seq (.reg [.callq [wainwrightref02_Whole.c]]) (.seq (.seq (.reg []) (.block (.loop ⟨21, 0, [], [0, 3, 4], (.cons (.v I) (.cons (.v .str) (.cons (.v I) .nil)))⟩ [(.exit 0, ⟨21, 0, [], [3], (.cons (.v .str) .nil)⟩)]
  (.seq (.seq (.reg []) (.cond .std .std)) (.seq (.block (.join [(.norm, ⟨21, 0, [], [0, 3, 4, 16], (.cons (.v I) (.cons (.v .str) (.cons (.v I) (.cons (.v .bool) .nil))))⟩)]
  (.reg []) (.cond (.reg [.std, .std, .callq [wainwrightref03_Set.c]]) .std))) (.reg [])))))) (.seq (.reg []) .std))))
noncomputable def wainwrightref10_Marks.code : Code := match Tryz.f86.body with | some c => c | none => .skip
theorem wainwrightref10_Marks.eq : absFn tt 21 wainwrightref10_Marks.ins wainwrightref10_Marks.outs wainwrightref10_Marks.code wainwrightref10_Marks.ann = wainwrightref10_Marks := by
  funext a
  kernel_rfl
theorem wainwrightref10_Marks.ok : wainwrightref10_Marks.ann.ok Tryz.prog 0 21 :=
  ann_ok (by kernel_rfl) (by kernel_rfl) (show ∀ c ∈ ([wainwrightref02_Whole.c, wainwrightref03_Set.c] : List Callee'), c.ok Tryz.prog from cs_cons wainwrightref02_Whole.sound (cs_cons wainwrightref03_Set.sound cs_nil))
    (show ∀ c ∈ ([wainwrightref02_Whole.c, wainwrightref03_Set.c] : List Callee'), FunQuiet c.F from cs_cons wainwrightref02_Whole.quiet (cs_cons wainwrightref03_Set.quiet cs_nil))
theorem wainwrightref10_Marks.sound : wainwrightref10_Marks.c.ok Tryz.prog := by
  refine ⟨?_, Tryz.f86, wainwrightref10_Marks.code, Tryz.func86, rfl, by decide⟩
  have h := fn_sound tt_ok mix_ok (x := wainwrightref10_Marks.ann) (ins := wainwrightref10_Marks.ins) (outs := wainwrightref10_Marks.outs) (N := 21) Tryz.func86 (c := wainwrightref10_Marks.code) rfl rfl (by kernel_rfl) (by kernel_rfl) wainwrightref10_Marks.ok (by decide)
  rw [wainwrightref10_Marks.eq] at h
  exact h

/-! ### wainwright/wainwrightref12.Begin: function 59 -/
noncomputable def wainwrightref12_Begin : List (List UInt8) → Option (List (List UInt8) × List (List UInt8)) := fun image0 =>
  if roomOk ((([] : List (List UInt8))).length + image0.length) 16 then
    if roomOk ((([] : List (List UInt8))).length + image0.length) 16 then
      some ((((([] : List (List UInt8))) ++ image0, (([] : List (List UInt8))) ++ image0)))
    else none
  else none

def wainwrightref12_Begin.ins : Spec := ⟨9, 0, [], [0], (.cons (.v (.sl .str)) .nil)⟩
def wainwrightref12_Begin.outs : List Spec := [⟨9, 0, [.box (.cons (.ref 1) (.cons (.ref 2) .nil)), .arr .str, .arr .str], [2], (.cons (.ref 0) .nil)⟩]
noncomputable def wainwrightref12_Begin.c : Callee' := ⟨59, mkFits wainwrightref12_Begin.ins wainwrightref12_Begin.outs, mkFun wainwrightref12_Begin.ins wainwrightref12_Begin.outs wainwrightref12_Begin, mkFun_nat _ _ _⟩
noncomputable def wainwrightref12_Begin.ann : Ann :=
  (.seq (.reg []) (.seq (.reg [.std, .obj .str, .std, .obj .str]) .std))
noncomputable def wainwrightref12_Begin.code : Code := match Tryz.f59.body with | some c => c | none => .skip
theorem wainwrightref12_Begin.eq : absFn tt 9 wainwrightref12_Begin.ins wainwrightref12_Begin.outs wainwrightref12_Begin.code wainwrightref12_Begin.ann = wainwrightref12_Begin := by
  funext a
  kernel_rfl
theorem wainwrightref12_Begin.ok : wainwrightref12_Begin.ann.ok Tryz.prog 0 9 :=
  ann_ok (by kernel_rfl) (by kernel_rfl) (show ∀ c ∈ ([] : List Callee'), c.ok Tryz.prog from cs_nil)
    (show ∀ c ∈ ([] : List Callee'), FunQuiet c.F from cs_nil)
theorem wainwrightref12_Begin.sound : wainwrightref12_Begin.c.ok Tryz.prog := by
  refine ⟨?_, Tryz.f59, wainwrightref12_Begin.code, Tryz.func59, rfl, by decide⟩
  have h := fn_sound tt_ok mix_ok (x := wainwrightref12_Begin.ann) (ins := wainwrightref12_Begin.ins) (outs := wainwrightref12_Begin.outs) (N := 9) Tryz.func59 (c := wainwrightref12_Begin.code) rfl rfl (by kernel_rfl) (by kernel_rfl) wainwrightref12_Begin.ok (by decide)
  rw [wainwrightref12_Begin.eq] at h
  exact h

/-! ### (*wainwright/deal.Deal).SetCrown: function 54 -/
noncomputable def deal_Deal_SetCrown : (Int × Int × Int) → Option (Int) := fun c1 =>
  some 1

def deal_Deal_SetCrown.ins : Spec := ⟨31, 0, [], [0, 1], (.cons (.nilptr) (.cons (.v (.st (.pair I (.pair I I)))) .nil))⟩
def deal_Deal_SetCrown.outs : List Spec := [⟨31, 0, [], [4], (.cons (.v I) .nil)⟩]
noncomputable def deal_Deal_SetCrown.c : Callee' := ⟨54, mkFits deal_Deal_SetCrown.ins deal_Deal_SetCrown.outs, mkFun deal_Deal_SetCrown.ins deal_Deal_SetCrown.outs deal_Deal_SetCrown, mkFun_nat _ _ _⟩
theorem deal_Deal_SetCrown.quiet : FunQuiet deal_Deal_SetCrown.c.F := mkFun_quiet rfl rfl
noncomputable def deal_Deal_SetCrown.ann : Ann :=
  (.seq (.reg []) (.seq (.seq (.drw [.std, .inl .bool, .std, .std, .std, .std, .std, .std, .std, .std, .callq []]) (.cond (.seq (.reg []) .std) .std)) (.seq (.reg []) (.seq (.seq (.reg []) (.cond (.seq (.reg []) .std) .std)) (.seq (.reg []) .std)))))
noncomputable def deal_Deal_SetCrown.code : Code := match Tryz.f54.body with | some c => c | none => .skip
theorem deal_Deal_SetCrown.eq : absFn tt 31 deal_Deal_SetCrown.ins deal_Deal_SetCrown.outs deal_Deal_SetCrown.code deal_Deal_SetCrown.ann = deal_Deal_SetCrown := by
  funext a
  kernel_rfl
theorem deal_Deal_SetCrown.ok : deal_Deal_SetCrown.ann.ok Tryz.prog 0 31 :=
  ann_ok (by kernel_rfl) (by kernel_rfl) (show ∀ c ∈ ([] : List Callee'), c.ok Tryz.prog from cs_nil)
    (show ∀ c ∈ ([] : List Callee'), FunQuiet c.F from cs_nil)
theorem deal_Deal_SetCrown.sound : deal_Deal_SetCrown.c.ok Tryz.prog := by
  refine ⟨?_, Tryz.f54, deal_Deal_SetCrown.code, Tryz.func54, rfl, by decide⟩
  have h := fn_sound tt_ok mix_ok (x := deal_Deal_SetCrown.ann) (ins := deal_Deal_SetCrown.ins) (outs := deal_Deal_SetCrown.outs) (N := 31) Tryz.func54 (c := deal_Deal_SetCrown.code) rfl rfl (by kernel_rfl) (by kernel_rfl) deal_Deal_SetCrown.ok (by decide)
  rw [deal_Deal_SetCrown.eq] at h
  exact h

/-! ### (*wainwright/deal.Deal).Write: function 53 -/
noncomputable def deal_Deal_Write : (Int × List UInt8) → Option (Int) := fun (i1, data2) =>
  some 1

def deal_Deal_Write.ins : Spec := ⟨33, 0, [], [0, 1, 2], (.cons (.nilptr) (.cons (.v I) (.cons (.v .str) .nil)))⟩
def deal_Deal_Write.outs : List Spec := [⟨33, 0, [], [6], (.cons (.v I) .nil)⟩]
noncomputable def deal_Deal_Write.c : Callee' := ⟨53, mkFits deal_Deal_Write.ins deal_Deal_Write.outs, mkFun deal_Deal_Write.ins deal_Deal_Write.outs deal_Deal_Write, mkFun_nat _ _ _⟩
theorem deal_Deal_Write.quiet : FunQuiet deal_Deal_Write.c.F := mkFun_quiet rfl rfl
noncomputable def deal_Deal_Write.ann : Ann :=
  (.seq (.reg []) (.seq (.seq (.reg [.std, .obj .bool]) (.cond (.seq (.reg []) .std) .std)) (.seq (.reg []) (.seq (.seq (.reg []) (.cond (.seq (.reg []) .std) .std)) (.seq (.reg []) (.seq (.reg []) .std))))))
noncomputable def deal_Deal_Write.code : Code := match Tryz.f53.body with | some c => c | none => .skip
theorem deal_Deal_Write.eq : absFn tt 33 deal_Deal_Write.ins deal_Deal_Write.outs deal_Deal_Write.code deal_Deal_Write.ann = deal_Deal_Write := by
  funext a
  kernel_rfl
theorem deal_Deal_Write.ok : deal_Deal_Write.ann.ok Tryz.prog 0 33 :=
  ann_ok (by kernel_rfl) (by kernel_rfl) (show ∀ c ∈ ([] : List Callee'), c.ok Tryz.prog from cs_nil)
    (show ∀ c ∈ ([] : List Callee'), FunQuiet c.F from cs_nil)
theorem deal_Deal_Write.sound : deal_Deal_Write.c.ok Tryz.prog := by
  refine ⟨?_, Tryz.f53, deal_Deal_Write.code, Tryz.func53, rfl, by decide⟩
  have h := fn_sound tt_ok mix_ok (x := deal_Deal_Write.ann) (ins := deal_Deal_Write.ins) (outs := deal_Deal_Write.outs) (N := 33) Tryz.func53 (c := deal_Deal_Write.code) rfl rfl (by kernel_rfl) (by kernel_rfl) deal_Deal_Write.ok (by decide)
  rw [deal_Deal_Write.eq] at h
  exact h

/-! ### wainwright/wainwrightref10.Right: function 179 -/
noncomputable def wainwrightref10_Right : (Int × Int × Int) → Option (Bool) := fun c0 =>
  if decide (c0.2.1 < 64) = false then
    if decide (c0.2.1 > 400) = true then
      some false
    else
      if (c0.1 == 1) = false then
        if (c0.1 == 2) = true then
          some (((c0.2.2 == 0)))
        else
          if (c0.1 == 3) = false then
            if (c0.1 == 4) = true then
              if decide (c0.2.2 ≥ 0) = true then
                some ((decide (c0.2.2 ≤ 32)))
              else
                some false
            else
              some false
          else
            if decide (c0.2.2 ≥ 0) = true then
              some ((decide (c0.2.2 ≤ 32)))
            else
              some false
      else
        some (((c0.2.2 == 0)))
  else
    some false

def wainwrightref10_Right.ins : Spec := ⟨40, 0, [], [0], (.cons (.v (.st (.pair I (.pair I I)))) .nil)⟩
def wainwrightref10_Right.outs : List Spec := [⟨40, 0, [], [2], (.cons (.v .bool) .nil)⟩]
noncomputable def wainwrightref10_Right.c : Callee' := ⟨179, mkFits wainwrightref10_Right.ins wainwrightref10_Right.outs, mkFun wainwrightref10_Right.ins wainwrightref10_Right.outs wainwrightref10_Right, mkFun_nat _ _ _⟩
theorem wainwrightref10_Right.quiet : FunQuiet wainwrightref10_Right.c.F := mkFun_quiet rfl rfl
noncomputable def wainwrightref10_Right.ann : Ann :=
  (.seq (.reg []) (.seq (.seq (.reg []) (.cond (.seq (.reg []) .std) .std)) (.seq (.seq (.reg []) (.cond (.seq (.reg []) .std) .std)) (.seq (.reg []) .std))))
noncomputable def wainwrightref10_Right.code : Code := match Tryz.f179.body with | some c => c | none => .skip
theorem wainwrightref10_Right.eq : absFn tt 40 wainwrightref10_Right.ins wainwrightref10_Right.outs wainwrightref10_Right.code wainwrightref10_Right.ann = wainwrightref10_Right := by
  funext a
  kernel_rfl
theorem wainwrightref10_Right.ok : wainwrightref10_Right.ann.ok Tryz.prog 0 40 :=
  ann_ok (by kernel_rfl) (by kernel_rfl) (show ∀ c ∈ ([] : List Callee'), c.ok Tryz.prog from cs_nil)
    (show ∀ c ∈ ([] : List Callee'), FunQuiet c.F from cs_nil)
theorem wainwrightref10_Right.sound : wainwrightref10_Right.c.ok Tryz.prog := by
  refine ⟨?_, Tryz.f179, wainwrightref10_Right.code, Tryz.func179, rfl, by decide⟩
  have h := fn_sound tt_ok mix_ok (x := wainwrightref10_Right.ann) (ins := wainwrightref10_Right.ins) (outs := wainwrightref10_Right.outs) (N := 40) Tryz.func179 (c := wainwrightref10_Right.code) rfl rfl (by kernel_rfl) (by kernel_rfl) wainwrightref10_Right.ok (by decide)
  rw [wainwrightref10_Right.eq] at h
  exact h

/-! ### wainwright/wainwrightref01.Size: function 178 -/
noncomputable def wainwrightref01_Size.l1 : (List Int × Int × Int) → Option ((List Int × Int × Int) ⊕ (Int ⊕ Int)) := fun (widths0, n3, i4) =>
  if decide (i4 < (widths0.length : Int)) = true then
    if 0 ≤ i4 ∧ i4 < (widths0.length : Int) then
      if (widths0.getD i4.toNat 0 != 1) = true then
        if 0 ≤ i4 ∧ i4 < (widths0.length : Int) then
          if (widths0.getD i4.toNat 0 != 2) = true then
            if 0 ≤ i4 ∧ i4 < (widths0.length : Int) then
              if (widths0.getD i4.toNat 0 != 4) = true then
                some (.inr (.inr (-1)))
              else
                if 0 ≤ i4 ∧ i4 < (widths0.length : Int) then
                  some (.inl ((widths0, IntKind.i64.wrap (n3 + (widths0.getD i4.toNat 0)), IntKind.i64.wrap (i4 + 1))))
                else none
            else none
          else
            if 0 ≤ i4 ∧ i4 < (widths0.length : Int) then
              some (.inl ((widths0, IntKind.i64.wrap (n3 + (widths0.getD i4.toNat 0)), IntKind.i64.wrap (i4 + 1))))
            else none
        else none
      else
        if 0 ≤ i4 ∧ i4 < (widths0.length : Int) then
          some (.inl ((widths0, IntKind.i64.wrap (n3 + (widths0.getD i4.toNat 0)), IntKind.i64.wrap (i4 + 1))))
        else none
    else none
  else
    some (.inr (.inl n3))

noncomputable def wainwrightref01_Size : List Int → Option (Int) := fun widths0 =>
  (loopO wainwrightref01_Size.l1 ((widths0, 0, 0))).bind fun d => match d with
  | .inl n3 =>
    some n3
  | .inr t2 =>
    some t2

def wainwrightref01_Size.ins : Spec := ⟨37, 0, [], [0], (.cons (.v (.sl I)) .nil)⟩
def wainwrightref01_Size.outs : List Spec := [⟨37, 0, [], [2], (.cons (.v I) .nil)⟩]
noncomputable def wainwrightref01_Size.c : Callee' := ⟨178, mkFits wainwrightref01_Size.ins wainwrightref01_Size.outs, mkFun wainwrightref01_Size.ins wainwrightref01_Size.outs wainwrightref01_Size, mkFun_nat _ _ _⟩
theorem wainwrightref01_Size.quiet : FunQuiet wainwrightref01_Size.c.F := mkFun_quiet rfl rfl
noncomputable def wainwrightref01_Size.ann : Ann :=
  (.seq (.reg []) (.seq (.reg []) (.seq (.seq (.reg []) (.block (.loop ⟨37, 0, [], [0, 3, 4], (.cons (.v (.sl I)) (.cons (.v I) (.cons (.v I) .nil)))⟩ [(.exit 0, ⟨37, 0, [], [3], (.cons (.v I) .nil)⟩), (.ret, ⟨37, 0, [], [2], (.cons (.v I) .nil)⟩)]
  (.seq (.seq (.reg []) (.cond .std .std)) (.seq (.block (.seq (.seq (.reg []) (.cond (.seq (.reg []) .std) .std)) (.reg []))) (.reg [])))))) (.seq (.reg []) .std))))
noncomputable def wainwrightref01_Size.code : Code := match Tryz.f178.body with | some c => c | none => .skip
theorem wainwrightref01_Size.eq : absFn tt 37 wainwrightref01_Size.ins wainwrightref01_Size.outs wainwrightref01_Size.code wainwrightref01_Size.ann = wainwrightref01_Size := by
  funext a
  kernel_rfl
theorem wainwrightref01_Size.ok : wainwrightref01_Size.ann.ok Tryz.prog 0 37 :=
  ann_ok (by kernel_rfl) (by kernel_rfl) (show ∀ c ∈ ([] : List Callee'), c.ok Tryz.prog from cs_nil)
    (show ∀ c ∈ ([] : List Callee'), FunQuiet c.F from cs_nil)
theorem wainwrightref01_Size.sound : wainwrightref01_Size.c.ok Tryz.prog := by
  refine ⟨?_, Tryz.f178, wainwrightref01_Size.code, Tryz.func178, rfl, by decide⟩
  have h := fn_sound tt_ok mix_ok (x := wainwrightref01_Size.ann) (ins := wainwrightref01_Size.ins) (outs := wainwrightref01_Size.outs) (N := 37) Tryz.func178 (c := wainwrightref01_Size.code) rfl rfl (by kernel_rfl) (by kernel_rfl) wainwrightref01_Size.ok (by decide)
  rw [wainwrightref01_Size.eq] at h
  exact h

/-! ### wainwright/wainwrightref01.most: function 213 -/
noncomputable def wainwrightref01_most : Int → Option (Int) := fun width0 =>
  if (width0 == 1) = true then
    some 255
  else
    if (width0 == 2) = true then
      some 65535
    else
      some 4294967295

def wainwrightref01_most.ins : Spec := ⟨7, 0, [], [0], (.cons (.v I) .nil)⟩
def wainwrightref01_most.outs : List Spec := [⟨7, 0, [], [2], (.cons (.v I) .nil)⟩]
noncomputable def wainwrightref01_most.c : Callee' := ⟨213, mkFits wainwrightref01_most.ins wainwrightref01_most.outs, mkFun wainwrightref01_most.ins wainwrightref01_most.outs wainwrightref01_most, mkFun_nat _ _ _⟩
theorem wainwrightref01_most.quiet : FunQuiet wainwrightref01_most.c.F := mkFun_quiet rfl rfl
noncomputable def wainwrightref01_most.ann : Ann :=
  (.seq (.reg []) (.seq (.seq (.reg []) (.cond (.seq (.reg []) .std) .std)) (.seq (.seq (.reg []) (.cond (.seq (.reg []) .std) .std)) (.seq (.reg []) .std))))
noncomputable def wainwrightref01_most.code : Code := match Tryz.f213.body with | some c => c | none => .skip
theorem wainwrightref01_most.eq : absFn tt 7 wainwrightref01_most.ins wainwrightref01_most.outs wainwrightref01_most.code wainwrightref01_most.ann = wainwrightref01_most := by
  funext a
  kernel_rfl
theorem wainwrightref01_most.ok : wainwrightref01_most.ann.ok Tryz.prog 0 7 :=
  ann_ok (by kernel_rfl) (by kernel_rfl) (show ∀ c ∈ ([] : List Callee'), c.ok Tryz.prog from cs_nil)
    (show ∀ c ∈ ([] : List Callee'), FunQuiet c.F from cs_nil)
theorem wainwrightref01_most.sound : wainwrightref01_most.c.ok Tryz.prog := by
  refine ⟨?_, Tryz.f213, wainwrightref01_most.code, Tryz.func213, rfl, by decide⟩
  have h := fn_sound tt_ok mix_ok (x := wainwrightref01_most.ann) (ins := wainwrightref01_most.ins) (outs := wainwrightref01_most.outs) (N := 7) Tryz.func213 (c := wainwrightref01_most.code) rfl rfl (by kernel_rfl) (by kernel_rfl) wainwrightref01_most.ok (by decide)
  rw [wainwrightref01_most.eq] at h
  exact h

/-! ### wainwright/wainwrightref01.Write: function 180 -/
noncomputable def wainwrightref01_Write.l2 : (List Int × List Int × List Int × Int × Int × Int) → Option ((List Int × List Int × List Int × Int × Int × Int) ⊕ (List Int × List Int × List Int × Int)) := fun (out6, widths0, values1, i7, v8, k9) =>
  if 0 ≤ i7 ∧ i7 < (widths0.length : Int) then
    if decide (k9 < widths0.getD i7.toNat 0) = true then
      if roomOk (out6.length + (([IntKind.u8.wrap (Int.tmod v8 256)] : List Int)).length) 1 then
        some (.inl ((out6 ++ (([IntKind.u8.wrap (Int.tmod v8 256)] : List Int)), widths0, values1, i7, IntKind.i64.wrap (Int.tdiv v8 256), IntKind.i64.wrap (k9 + 1))))
      else none
    else
      some (.inr (((out6, widths0, values1, i7))))
  else none

noncomputable def wainwrightref01_Write.l1 : (List Int × List Int × List Int × Int) → Option ((List Int × List Int × List Int × Int) ⊕ ((List Int) ⊕ (List UInt8 × Int))) := fun (out6, widths0, values1, i7) =>
  if decide (i7 < (widths0.length : Int)) = true then
    if 0 ≤ i7 ∧ i7 < (values1.length : Int) then
      if decide (values1.getD i7.toNat 0 < 0) = false then
        if 0 ≤ i7 ∧ i7 < (values1.length : Int) then
          if 0 ≤ i7 ∧ i7 < (widths0.length : Int) then
            (wainwrightref01_most (widths0.getD i7.toNat 0)).bind fun r40 =>
              if decide (values1.getD i7.toNat 0 > r40) = true then
                some (.inr (.inr ((([], 3)))))
              else
                if 0 ≤ i7 ∧ i7 < (values1.length : Int) then
                  (loopO wainwrightref01_Write.l2 ((out6, widths0, values1, i7, values1.getD i7.toNat 0, 0))).bind fun (out6, widths0, values1, i7) =>
                    some (.inl ((out6, widths0, values1, IntKind.i64.wrap (i7 + 1))))
                else none
          else none
        else none
      else
        some (.inr (.inr ((([], 3)))))
    else none
  else
    some (.inr (.inl out6))

noncomputable def wainwrightref01_Write : (List Int × List Int) → Option (List UInt8 × Int) := fun (widths0, values1) =>
  (wainwrightref01_Size widths0).bind fun r11 =>
    if decide (r11 < 0) = false then
      if ((widths0.length : Int) != (values1.length : Int)) = true then
        some ((([], 1)))
      else
        (loopO wainwrightref01_Write.l1 (([], widths0, values1, 0))).bind fun d => match d with
        | .inl out6 =>
          some (((out6.map fun (n : Int) => UInt8.ofNat n.toNat, 0)))
        | .inr ((t4, t5)) =>
          some (((t4, t5)))
    else
      some ((([], 1)))

def wainwrightref01_Write.ins : Spec := ⟨65, 0, [], [0, 1], (.cons (.v (.sl I)) (.cons (.v (.sl I)) .nil))⟩
def wainwrightref01_Write.outs : List Spec := [⟨65, 0, [], [4, 5], (.cons (.v .str) (.cons (.v I) .nil))⟩]
noncomputable def wainwrightref01_Write.c : Callee' := ⟨180, mkFits wainwrightref01_Write.ins wainwrightref01_Write.outs, mkFun wainwrightref01_Write.ins wainwrightref01_Write.outs wainwrightref01_Write, mkFun_nat _ _ _⟩
theorem wainwrightref01_Write.quiet : FunQuiet wainwrightref01_Write.c.F := mkFun_quiet rfl rfl
noncomputable def wainwrightref01_Write.ann : Ann :=
  (.seq (.reg []) (.seq (.seq (.reg [.std, .callq [wainwrightref01_Size.c]]) (.cond (.seq (.reg []) .std) .std)) (.seq (.reg []) (.seq (.seq (.reg []) (.block (.loop ⟨65, 0, [.arr (.int .u8)], [0, 1, 6, 7], (.cons (.v (.sl I)) (.cons (.v (.sl I)) (.cons (.ref 0) (.cons (.v I) .nil))))⟩ [(.exit 0, ⟨65, 0, [.arr (.int .u8)], [6], (.cons (.ref 0) .nil)⟩), (.ret, ⟨65, 0, [], [4, 5], (.cons (.v .str) (.cons (.v I) .nil))⟩)]
  (.seq (.seq (.reg []) (.cond .std .std)) (.seq (.block (.seq (.seq (.drw [.std, .std, .std, .std, .std, .std, .std, .std, .std, .std, .std, .std, .std, .std, .callq [wainwrightref01_most.c]]) (.cond (.seq (.reg []) .std) .std)) (.seq (.reg []) (.seq (.reg []) (.block (.loop ⟨65, 0, [.arr (.int .u8)], [0, 1, 6, 7, 8, 9], (.cons (.v (.sl I)) (.cons (.v (.sl I)) (.cons (.ref 0) (.cons (.v I) (.cons (.v I) (.cons (.v I) .nil))))))⟩ [(.exit 2, ⟨65, 0, [.arr (.int .u8)], [0, 1, 6, 7], (.cons (.v (.sl I)) (.cons (.v (.sl I)) (.cons (.ref 0) (.cons (.v I) .nil))))⟩)]
  (.seq (.seq (.reg []) (.cond .std .std)) (.seq (.block (.seq (.reg [.std, .std, .std, .std, .inl (.int .u8), .obj (.int .u8)]) (.reg []))) (.reg []))))))))) (.reg [])))))) (.seq (.reg []) .std)))))
noncomputable def wainwrightref01_Write.code : Code := match Tryz.f180.body with | some c => c | none => .skip
theorem wainwrightref01_Write.eq : absFn tt 65 wainwrightref01_Write.ins wainwrightref01_Write.outs wainwrightref01_Write.code wainwrightref01_Write.ann = wainwrightref01_Write := by
  funext a
  kernel_rfl
theorem wainwrightref01_Write.ok : wainwrightref01_Write.ann.ok Tryz.prog 0 65 :=
  ann_ok (by kernel_rfl) (by kernel_rfl) (show ∀ c ∈ ([wainwrightref01_Size.c, wainwrightref01_most.c] : List Callee'), c.ok Tryz.prog from cs_cons wainwrightref01_Size.sound (cs_cons wainwrightref01_most.sound cs_nil))
    (show ∀ c ∈ ([wainwrightref01_Size.c, wainwrightref01_most.c] : List Callee'), FunQuiet c.F from cs_cons wainwrightref01_Size.quiet (cs_cons wainwrightref01_most.quiet cs_nil))
theorem wainwrightref01_Write.sound : wainwrightref01_Write.c.ok Tryz.prog := by
  refine ⟨?_, Tryz.f180, wainwrightref01_Write.code, Tryz.func180, rfl, by decide⟩
  have h := fn_sound tt_ok mix_ok (x := wainwrightref01_Write.ann) (ins := wainwrightref01_Write.ins) (outs := wainwrightref01_Write.outs) (N := 65) Tryz.func180 (c := wainwrightref01_Write.code) rfl rfl (by kernel_rfl) (by kernel_rfl) wainwrightref01_Write.ok (by decide)
  rw [wainwrightref01_Write.eq] at h
  exact h

/-! ### wainwright/wainwrightref10.Write: function 138 -/
noncomputable def wainwrightref10_Write : (Int × Int × Int) → Option (List UInt8 × Int) := fun c0 =>
  (wainwrightref10_Right (c0.1, c0.2.1, c0.2.2)).bind fun r7 =>
    if (!r7) = true then
      some ((([], 1)))
    else
      (wainwrightref01_Write (([1, 2, 1] : List Int), ([c0.1, c0.2.1, c0.2.2] : List Int))).bind fun (r18, r18_2) =>
        if (([119, 97, 105, 110, 119, 114, 105, 103, 104, 116] : List UInt8)).length + r18.length ≤ 9223372036854775807 then
          (wainwrightref02_Whole ((([119, 97, 105, 110, 119, 114, 105, 103, 104, 116] : List UInt8)) ++ r18)).bind fun r23 =>
            some (((r23, 0)))
        else none

def wainwrightref10_Write.ins : Spec := ⟨24, 0, [], [0], (.cons (.v (.st (.pair I (.pair I I)))) .nil)⟩
def wainwrightref10_Write.outs : List Spec := [⟨24, 0, [], [2, 3], (.cons (.v .str) (.cons (.v I) .nil))⟩]
noncomputable def wainwrightref10_Write.c : Callee' := ⟨138, mkFits wainwrightref10_Write.ins wainwrightref10_Write.outs, mkFun wainwrightref10_Write.ins wainwrightref10_Write.outs wainwrightref10_Write, mkFun_nat _ _ _⟩
theorem wainwrightref10_Write.quiet : FunQuiet wainwrightref10_Write.c.F := mkFun_quiet rfl rfl
noncomputable def wainwrightref10_Write.ann : Ann :=
  (.seq (.reg []) (.seq (.seq (.reg [.std, .callq [wainwrightref10_Right.c]]) (.cond (.seq (.reg []) .std) .std)) (.seq (.reg [.inl I, .std, .std, .std, .std, .std, .std, .inl I, .callq [wainwrightref01_Write.c]]) (.seq (.reg [.std, .std, .callq [wainwrightref02_Whole.c]]) .std))))
noncomputable def wainwrightref10_Write.code : Code := match Tryz.f138.body with | some c => c | none => .skip
theorem wainwrightref10_Write.eq : absFn tt 24 wainwrightref10_Write.ins wainwrightref10_Write.outs wainwrightref10_Write.code wainwrightref10_Write.ann = wainwrightref10_Write := by
  funext a
  kernel_rfl
theorem wainwrightref10_Write.ok : wainwrightref10_Write.ann.ok Tryz.prog 0 24 :=
  ann_ok (by kernel_rfl) (by kernel_rfl) (show ∀ c ∈ ([wainwrightref10_Right.c, wainwrightref01_Write.c, wainwrightref02_Whole.c] : List Callee'), c.ok Tryz.prog from cs_cons wainwrightref10_Right.sound (cs_cons wainwrightref01_Write.sound (cs_cons wainwrightref02_Whole.sound cs_nil)))
    (show ∀ c ∈ ([wainwrightref10_Right.c, wainwrightref01_Write.c, wainwrightref02_Whole.c] : List Callee'), FunQuiet c.F from cs_cons wainwrightref10_Right.quiet (cs_cons wainwrightref01_Write.quiet (cs_cons wainwrightref02_Whole.quiet cs_nil)))
theorem wainwrightref10_Write.sound : wainwrightref10_Write.c.ok Tryz.prog := by
  refine ⟨?_, Tryz.f138, wainwrightref10_Write.code, Tryz.func138, rfl, by decide⟩
  have h := fn_sound tt_ok mix_ok (x := wainwrightref10_Write.ann) (ins := wainwrightref10_Write.ins) (outs := wainwrightref10_Write.outs) (N := 24) Tryz.func138 (c := wainwrightref10_Write.code) rfl rfl (by kernel_rfl) (by kernel_rfl) wainwrightref10_Write.ok (by decide)
  rw [wainwrightref10_Write.eq] at h
  exact h

/-! ### (*wainwright/wainwrightref12.Deal).SetCrown: function 87 -/
noncomputable def wainwrightref12_Deal_SetCrown : ((List (List UInt8) × List (List UInt8)) × Int × Int × Int) → Option ((List (List UInt8) × List (List UInt8)) × Int) := fun ((o1, o2), c1) =>
  (wainwrightref10_Write (c1.1, c1.2.1, c1.2.2)).bind fun (r9, r9_2) =>
    if (r9_2 != 0) = false then
      if decide (c1.2.1 > (o2.length : Int)) = true then
        some ((((o1, o2), 1)))
      else
        if 0 ≤ (0 : Int) ∧ (0 : Int) < (o2.length : Int) then
          some ((((o1, o2.set 0 r9), 0)))
        else none
    else
      some ((((o1, o2), 1)))

def wainwrightref12_Deal_SetCrown.ins : Spec := ⟨30, 0, [.box (.cons (.ref 1) (.cons (.ref 2) .nil)), .arr .str, .arr .str], [0, 1], (.cons (.ref 0) (.cons (.v (.st (.pair I (.pair I I)))) .nil))⟩
def wainwrightref12_Deal_SetCrown.outs : List Spec := [⟨30, 3, [.box (.cons (.ref 1) (.cons (.ref 2) .nil)), .arr .str, .arr .str], [4], (.cons (.v I) .nil)⟩]
noncomputable def wainwrightref12_Deal_SetCrown.c : Callee' := ⟨87, mkFits wainwrightref12_Deal_SetCrown.ins wainwrightref12_Deal_SetCrown.outs, mkFun wainwrightref12_Deal_SetCrown.ins wainwrightref12_Deal_SetCrown.outs wainwrightref12_Deal_SetCrown, mkFun_nat _ _ _⟩
noncomputable def wainwrightref12_Deal_SetCrown.ann : Ann :=
  (.seq (.reg []) (.seq (.reg [.std, .callq [wainwrightref10_Write.c]]) (.seq (.seq (.drw []) (.cond (.seq (.reg []) .std) .std)) (.seq (.reg []) (.seq (.reg []) .std)))))
noncomputable def wainwrightref12_Deal_SetCrown.code : Code := match Tryz.f87.body with | some c => c | none => .skip
theorem wainwrightref12_Deal_SetCrown.eq : absFn tt 30 wainwrightref12_Deal_SetCrown.ins wainwrightref12_Deal_SetCrown.outs wainwrightref12_Deal_SetCrown.code wainwrightref12_Deal_SetCrown.ann = wainwrightref12_Deal_SetCrown := by
  funext a
  kernel_rfl
theorem wainwrightref12_Deal_SetCrown.ok : wainwrightref12_Deal_SetCrown.ann.ok Tryz.prog 3 30 :=
  ann_ok (by kernel_rfl) (by kernel_rfl) (show ∀ c ∈ ([wainwrightref10_Write.c] : List Callee'), c.ok Tryz.prog from cs_cons wainwrightref10_Write.sound cs_nil)
    (show ∀ c ∈ ([wainwrightref10_Write.c] : List Callee'), FunQuiet c.F from cs_cons wainwrightref10_Write.quiet cs_nil)
theorem wainwrightref12_Deal_SetCrown.sound : wainwrightref12_Deal_SetCrown.c.ok Tryz.prog := by
  refine ⟨?_, Tryz.f87, wainwrightref12_Deal_SetCrown.code, Tryz.func87, rfl, by decide⟩
  have h := fn_sound tt_ok mix_ok (x := wainwrightref12_Deal_SetCrown.ann) (ins := wainwrightref12_Deal_SetCrown.ins) (outs := wainwrightref12_Deal_SetCrown.outs) (N := 30) Tryz.func87 (c := wainwrightref12_Deal_SetCrown.code) rfl rfl (by kernel_rfl) (by kernel_rfl) wainwrightref12_Deal_SetCrown.ok (by decide)
  rw [wainwrightref12_Deal_SetCrown.eq] at h
  exact h

/-! ### (*wainwright/wainwrightref12.Deal).there: function 139 -/
noncomputable def wainwrightref12_Deal_there : ((List (List UInt8) × List (List UInt8)) × Int) → Option (Bool) := fun (d0, i1) =>
  if decide (i1 ≥ 0) = true then
    if decide (i1 < (d0.2.length : Int)) = true then
      if decide (i1 < 1) = false then
        some ((decide (i1 > 41)))
      else
        some true
    else
      some false
  else
    some false

def wainwrightref12_Deal_there.ins : Spec := ⟨24, 0, [], [0, 1], (.cons (.v (.ptr (.pair (.sl .str) (.sl .str)))) (.cons (.v I) .nil))⟩
def wainwrightref12_Deal_there.outs : List Spec := [⟨24, 0, [], [4], (.cons (.v .bool) .nil)⟩]
noncomputable def wainwrightref12_Deal_there.c : Callee' := ⟨139, mkFits wainwrightref12_Deal_there.ins wainwrightref12_Deal_there.outs, mkFun wainwrightref12_Deal_there.ins wainwrightref12_Deal_there.outs wainwrightref12_Deal_there, mkFun_nat _ _ _⟩
theorem wainwrightref12_Deal_there.quiet : FunQuiet wainwrightref12_Deal_there.c.F := mkFun_quiet rfl rfl
noncomputable def wainwrightref12_Deal_there.ann : Ann :=
  (.seq (.reg []) (.seq (.reg []) .std))
noncomputable def wainwrightref12_Deal_there.code : Code := match Tryz.f139.body with | some c => c | none => .skip
theorem wainwrightref12_Deal_there.eq : absFn tt 24 wainwrightref12_Deal_there.ins wainwrightref12_Deal_there.outs wainwrightref12_Deal_there.code wainwrightref12_Deal_there.ann = wainwrightref12_Deal_there := by
  funext a
  kernel_rfl
theorem wainwrightref12_Deal_there.ok : wainwrightref12_Deal_there.ann.ok Tryz.prog 0 24 :=
  ann_ok (by kernel_rfl) (by kernel_rfl) (show ∀ c ∈ ([] : List Callee'), c.ok Tryz.prog from cs_nil)
    (show ∀ c ∈ ([] : List Callee'), FunQuiet c.F from cs_nil)
theorem wainwrightref12_Deal_there.sound : wainwrightref12_Deal_there.c.ok Tryz.prog := by
  refine ⟨?_, Tryz.f139, wainwrightref12_Deal_there.code, Tryz.func139, rfl, by decide⟩
  have h := fn_sound tt_ok mix_ok (x := wainwrightref12_Deal_there.ann) (ins := wainwrightref12_Deal_there.ins) (outs := wainwrightref12_Deal_there.outs) (N := 24) Tryz.func139 (c := wainwrightref12_Deal_there.code) rfl rfl (by kernel_rfl) (by kernel_rfl) wainwrightref12_Deal_there.ok (by decide)
  rw [wainwrightref12_Deal_there.eq] at h
  exact h

/-! ### (*wainwright/wainwrightref12.Deal).Write: function 88 -/
noncomputable def wainwrightref12_Deal_Write : ((List (List UInt8) × List (List UInt8)) × Int × List UInt8) → Option ((List (List UInt8) × List (List UInt8)) × Int) := fun ((o1, o2), i1, data2) =>
  (wainwrightref12_Deal_there ((o1, o2), i1)).bind fun r9 =>
    if (!r9) = false then
      if decide ((data2.length : Int) > 128) = true then
        some ((((o1, o2), 1)))
      else
        (wainwrightref02_Whole data2).bind fun r22 =>
          if 0 ≤ i1 ∧ i1 < (o2.length : Int) then
            some ((((o1, o2.set i1.toNat r22), 0)))
          else none
    else
      some ((((o1, o2), 1)))

def wainwrightref12_Deal_Write.ins : Spec := ⟨24, 0, [.box (.cons (.ref 1) (.cons (.ref 2) .nil)), .arr .str, .arr .str], [0, 1, 2], (.cons (.ref 0) (.cons (.v I) (.cons (.v .str) .nil)))⟩
def wainwrightref12_Deal_Write.outs : List Spec := [⟨24, 3, [.box (.cons (.ref 1) (.cons (.ref 2) .nil)), .arr .str, .arr .str], [6], (.cons (.v I) .nil)⟩]
noncomputable def wainwrightref12_Deal_Write.c : Callee' := ⟨88, mkFits wainwrightref12_Deal_Write.ins wainwrightref12_Deal_Write.outs, mkFun wainwrightref12_Deal_Write.ins wainwrightref12_Deal_Write.outs wainwrightref12_Deal_Write, mkFun_nat _ _ _⟩
noncomputable def wainwrightref12_Deal_Write.ann : Ann :=
  (.seq (.reg []) (.seq (.seq (.reg [.std, .std, .callq [wainwrightref12_Deal_there.c]]) (.cond (.seq (.reg []) .std) .std)) (.seq (.drw [.std, .std, .std, .std, .std, .std, .callq [wainwrightref02_Whole.c]]) (.seq (.reg []) .std))))
noncomputable def wainwrightref12_Deal_Write.code : Code := match Tryz.f88.body with | some c => c | none => .skip
theorem wainwrightref12_Deal_Write.eq : absFn tt 24 wainwrightref12_Deal_Write.ins wainwrightref12_Deal_Write.outs wainwrightref12_Deal_Write.code wainwrightref12_Deal_Write.ann = wainwrightref12_Deal_Write := by
  funext a
  kernel_rfl
theorem wainwrightref12_Deal_Write.ok : wainwrightref12_Deal_Write.ann.ok Tryz.prog 3 24 :=
  ann_ok (by kernel_rfl) (by kernel_rfl) (show ∀ c ∈ ([wainwrightref12_Deal_there.c, wainwrightref02_Whole.c] : List Callee'), c.ok Tryz.prog from cs_cons wainwrightref12_Deal_there.sound (cs_cons wainwrightref02_Whole.sound cs_nil))
    (show ∀ c ∈ ([wainwrightref12_Deal_there.c, wainwrightref02_Whole.c] : List Callee'), FunQuiet c.F from cs_cons wainwrightref12_Deal_there.quiet (cs_cons wainwrightref02_Whole.quiet cs_nil))
theorem wainwrightref12_Deal_Write.sound : wainwrightref12_Deal_Write.c.ok Tryz.prog := by
  refine ⟨?_, Tryz.f88, wainwrightref12_Deal_Write.code, Tryz.func88, rfl, by decide⟩
  have h := fn_sound tt_ok mix_ok (x := wainwrightref12_Deal_Write.ann) (ins := wainwrightref12_Deal_Write.ins) (outs := wainwrightref12_Deal_Write.outs) (N := 24) Tryz.func88 (c := wainwrightref12_Deal_Write.code) rfl rfl (by kernel_rfl) (by kernel_rfl) wainwrightref12_Deal_Write.ok (by decide)
  rw [wainwrightref12_Deal_Write.eq] at h
  exact h

/-! ### wainwright/deal.Begin: function 46 -/
noncomputable def deal_Begin_1 : ((List (List UInt8) × (List (Int × List UInt8)) × Int × Int) × Bool × Int) → Option ((((List (List UInt8) × (List (Int × List UInt8)) × Int × Int) × Bool × Int) × List (Int × List UInt8)) × Int) := fun l0 =>
  some ((((l0, ([] : List (Int × List UInt8))), 0)))

def deal_Begin_1.ins : Spec := ⟨11, 0, [], [0], (.cons (.v (.ptr (.pair (.ptr (.pair (.sl .str) (.pair (.map I .str) (.pair I I)))) (.pair .bool I)))) .nil)⟩
def deal_Begin_1.outs : List Spec := [⟨11, 0, [.box (.cons (.v (.ptr (.pair (.ptr (.pair (.sl .str) (.pair (.map I .str) (.pair I I)))) (.pair .bool I)))) (.cons (.ref 1) .nil)), .map I .str], [2, 3], (.cons (.ref 0) (.cons (.v I) .nil))⟩]
noncomputable def deal_Begin_1.c : Callee' := ⟨46, mkFits deal_Begin_1.ins deal_Begin_1.outs, mkFun deal_Begin_1.ins deal_Begin_1.outs deal_Begin_1, mkFun_nat _ _ _⟩
noncomputable def deal_Begin_1.ann : Ann :=
  (.seq (.reg []) (.seq (.seq (.reg [.std, .obj .bool]) (.cond (.seq (.reg []) .std) .std)) (.seq (.reg [.std, .mp I .str]) .std)))
noncomputable def deal_Begin_1.code : Code := match Tryz.f46.body with | some c => c | none => .skip
theorem deal_Begin_1.eq : absFn tt 11 deal_Begin_1.ins deal_Begin_1.outs deal_Begin_1.code deal_Begin_1.ann = deal_Begin_1 := by
  funext a
  kernel_rfl
theorem deal_Begin_1.ok : deal_Begin_1.ann.ok Tryz.prog 0 11 :=
  ann_ok (by kernel_rfl) (by kernel_rfl) (show ∀ c ∈ ([] : List Callee'), c.ok Tryz.prog from cs_nil)
    (show ∀ c ∈ ([] : List Callee'), FunQuiet c.F from cs_nil)
theorem deal_Begin_1.sound : deal_Begin_1.c.ok Tryz.prog := by
  refine ⟨?_, Tryz.f46, deal_Begin_1.code, Tryz.func46, rfl, by decide⟩
  have h := fn_sound tt_ok mix_ok (x := deal_Begin_1.ann) (ins := deal_Begin_1.ins) (outs := deal_Begin_1.outs) (N := 11) Tryz.func46 (c := deal_Begin_1.code) rfl rfl (by kernel_rfl) (by kernel_rfl) deal_Begin_1.ok (by decide)
  rw [deal_Begin_1.eq] at h
  exact h

/-! ### wainwright/deal.Begin: function 46 -/
noncomputable def deal_Begin_2 : ((Bool × Int) × (Int × Int) × List (List UInt8) × List (Int × List UInt8)) → Option (((Bool × Int) × (Int × Int) × List (List UInt8) × (List (Int × List UInt8)) × List (Int × List UInt8)) × Int) := fun ((l0b, l0c), (o1c, o1d), o2, o3) =>
  some (((((l0b, l0c), (o1c, o1d), o2, o3, ([] : List (Int × List UInt8))), 0)))

def deal_Begin_2.ins : Spec := ⟨11, 0, [.box (.cons (.ref 1) (.cons (.v .bool) (.cons (.v I) .nil))), .box (.cons (.ref 2) (.cons (.ref 3) (.cons (.v I) (.cons (.v I) .nil)))), .arr .str, .map I .str], [0], (.cons (.ref 0) .nil)⟩
def deal_Begin_2.outs : List Spec := [⟨11, 4, [.box (.cons (.ref 1) (.cons (.v .bool) (.cons (.v I) .nil))), .box (.cons (.ref 2) (.cons (.ref 3) (.cons (.v I) (.cons (.v I) .nil)))), .arr .str, .map I .str, .box (.cons (.ref 0) (.cons (.ref 5) .nil)), .map I .str], [2, 3], (.cons (.ref 4) (.cons (.v I) .nil))⟩]
noncomputable def deal_Begin_2.c : Callee' := ⟨46, mkFits deal_Begin_2.ins deal_Begin_2.outs, mkFun deal_Begin_2.ins deal_Begin_2.outs deal_Begin_2, mkFun_nat _ _ _⟩
noncomputable def deal_Begin_2.ann : Ann :=
  (.seq (.reg []) (.seq (.seq (.reg [.std, .obj .bool]) (.cond (.seq (.reg []) .std) .std)) (.seq (.reg [.std, .mp I .str]) .std)))
noncomputable def deal_Begin_2.code : Code := match Tryz.f46.body with | some c => c | none => .skip
theorem deal_Begin_2.eq : absFn tt 11 deal_Begin_2.ins deal_Begin_2.outs deal_Begin_2.code deal_Begin_2.ann = deal_Begin_2 := by
  funext a
  kernel_rfl
theorem deal_Begin_2.ok : deal_Begin_2.ann.ok Tryz.prog 4 11 :=
  ann_ok (by kernel_rfl) (by kernel_rfl) (show ∀ c ∈ ([] : List Callee'), c.ok Tryz.prog from cs_nil)
    (show ∀ c ∈ ([] : List Callee'), FunQuiet c.F from cs_nil)
theorem deal_Begin_2.sound : deal_Begin_2.c.ok Tryz.prog := by
  refine ⟨?_, Tryz.f46, deal_Begin_2.code, Tryz.func46, rfl, by decide⟩
  have h := fn_sound tt_ok mix_ok (x := deal_Begin_2.ann) (ins := deal_Begin_2.ins) (outs := deal_Begin_2.outs) (N := 11) Tryz.func46 (c := deal_Begin_2.code) rfl rfl (by kernel_rfl) (by kernel_rfl) deal_Begin_2.ok (by decide)
  rw [deal_Begin_2.eq] at h
  exact h

/-! ### (*wainwright/log.Log).Size: function 20 -/
noncomputable def log_Log_Size : ((List (List UInt8) × (List (Int × List UInt8)) × Int × Int) × Bool × Int) → Option (Int) := fun l0 =>
  (slab_Slab_Size l0.1).bind fun r9 =>
    some r9

def log_Log_Size.ins : Spec := ⟨10, 0, [], [0], (.cons (.v (.ptr (.pair (.ptr (.pair (.sl .str) (.pair (.map I .str) (.pair I I)))) (.pair .bool I)))) .nil)⟩
def log_Log_Size.outs : List Spec := [⟨10, 0, [], [2], (.cons (.v I) .nil)⟩]
noncomputable def log_Log_Size.c : Callee' := ⟨20, mkFits log_Log_Size.ins log_Log_Size.outs, mkFun log_Log_Size.ins log_Log_Size.outs log_Log_Size, mkFun_nat _ _ _⟩
theorem log_Log_Size.quiet : FunQuiet log_Log_Size.c.F := mkFun_quiet rfl rfl
noncomputable def log_Log_Size.ann : Ann :=
  (.seq (.reg []) (.seq (.seq (.reg [.std, .obj .bool]) (.cond (.seq (.reg []) .std) .std)) (.seq (.reg [.std, .std, .std, .std, .callq [slab_Slab_Size.c]]) .std)))
noncomputable def log_Log_Size.code : Code := match Tryz.f20.body with | some c => c | none => .skip
theorem log_Log_Size.eq : absFn tt 10 log_Log_Size.ins log_Log_Size.outs log_Log_Size.code log_Log_Size.ann = log_Log_Size := by
  funext a
  kernel_rfl
theorem log_Log_Size.ok : log_Log_Size.ann.ok Tryz.prog 0 10 :=
  ann_ok (by kernel_rfl) (by kernel_rfl) (show ∀ c ∈ ([slab_Slab_Size.c] : List Callee'), c.ok Tryz.prog from cs_cons slab_Slab_Size.sound cs_nil)
    (show ∀ c ∈ ([slab_Slab_Size.c] : List Callee'), FunQuiet c.F from cs_cons slab_Slab_Size.quiet cs_nil)
theorem log_Log_Size.sound : log_Log_Size.c.ok Tryz.prog := by
  refine ⟨?_, Tryz.f20, log_Log_Size.code, Tryz.func20, rfl, by decide⟩
  have h := fn_sound tt_ok mix_ok (x := log_Log_Size.ann) (ins := log_Log_Size.ins) (outs := log_Log_Size.outs) (N := 10) Tryz.func20 (c := log_Log_Size.code) rfl rfl (by kernel_rfl) (by kernel_rfl) log_Log_Size.ok (by decide)
  rw [log_Log_Size.eq] at h
  exact h

/-! ### wainwright/crown.Right: function 142 -/
noncomputable def crown_Right : (Int × Int × Int) → Option (Bool) := fun c0 =>
  if decide (c0.2.1 < 64) = false then
    if decide (c0.2.1 > 400) = true then
      some false
    else
      ((
        if (c0.1 == 1) = true then
          some ((((c0.1, c0.2.1, c0.2.2), c0.1, true)))
        else
          some ((((c0.1, c0.2.1, c0.2.2), c0.1, (c0.1 == 2))))) : Option ((Int × Int × Int) × Int × Bool)).bind fun ((c1a, c1b, c1c), t12, t13) =>
        if t13 = true then
          some (((c1c == 0)))
        else
          ((
            if (t12 == 3) = true then
              some ((((c1a, c1b, c1c), true)))
            else
              some ((((c1a, c1b, c1c), (t12 == 4))))) : Option ((Int × Int × Int) × Bool)).bind fun ((c1a, c1b, c1c), t19) =>
            if t19 = true then
              if decide (c1c ≥ 0) = true then
                some ((decide (c1c ≤ 32)))
              else
                some false
            else
              some false
  else
    some false

def crown_Right.ins : Spec := ⟨30, 0, [], [0], (.cons (.v (.st (.pair I (.pair I I)))) .nil)⟩
def crown_Right.outs : List Spec := [⟨30, 0, [], [2], (.cons (.v .bool) .nil)⟩]
noncomputable def crown_Right.c : Callee' := ⟨142, mkFits crown_Right.ins crown_Right.outs, mkFun crown_Right.ins crown_Right.outs crown_Right, mkFun_nat _ _ _⟩
theorem crown_Right.quiet : FunQuiet crown_Right.c.F := mkFun_quiet rfl rfl
noncomputable def crown_Right.ann : Ann :=
  (.seq (.reg []) (.seq (.seq (.reg []) (.cond (.seq (.reg []) .std) .std)) (.seq (.seq (.reg []) (.block (.join [(.norm, ⟨30, 0, [.box (.cons (.v I) (.cons (.v I) (.cons (.v I) .nil)))], [1, 12, 13], (.cons (.ref 0) (.cons (.v I) (.cons (.v .bool) .nil)))⟩)]
  (.seq (.reg []) (.cond .std (.reg []))) (.cond (.seq (.reg []) .std) (.join [(.norm, ⟨30, 0, [.box (.cons (.v I) (.cons (.v I) (.cons (.v I) .nil)))], [1, 19], (.cons (.ref 0) (.cons (.v .bool) .nil))⟩)]
  (.seq (.reg []) (.cond .std (.reg []))) (.cond (.seq (.reg []) .std) .std)))))) (.seq (.reg []) .std))))
noncomputable def crown_Right.code : Code := match Tryz.f142.body with | some c => c | none => .skip
theorem crown_Right.eq : absFn tt 30 crown_Right.ins crown_Right.outs crown_Right.code crown_Right.ann = crown_Right := by
  funext a
  kernel_rfl
theorem crown_Right.ok : crown_Right.ann.ok Tryz.prog 0 30 :=
  ann_ok (by kernel_rfl) (by kernel_rfl) (show ∀ c ∈ ([] : List Callee'), c.ok Tryz.prog from cs_nil)
    (show ∀ c ∈ ([] : List Callee'), FunQuiet c.F from cs_nil)
theorem crown_Right.sound : crown_Right.c.ok Tryz.prog := by
  refine ⟨?_, Tryz.f142, crown_Right.code, Tryz.func142, rfl, by decide⟩
  have h := fn_sound tt_ok mix_ok (x := crown_Right.ann) (ins := crown_Right.ins) (outs := crown_Right.outs) (N := 30) Tryz.func142 (c := crown_Right.code) rfl rfl (by kernel_rfl) (by kernel_rfl) crown_Right.ok (by decide)
  rw [crown_Right.eq] at h
  exact h

/-! ### wainwright/crown.widths: function 150 -/
noncomputable def crown_widths : Unit → Option (List Int) := fun _ =>
  some ((([1, 2, 1] : List Int)))

def crown_widths.ins : Spec := ⟨2, 0, [], [], .nil⟩
def crown_widths.outs : List Spec := [⟨2, 0, [], [0], (.cons (.v (.sl I)) .nil)⟩]
noncomputable def crown_widths.c : Callee' := ⟨150, mkFits crown_widths.ins crown_widths.outs, mkFun crown_widths.ins crown_widths.outs crown_widths, mkFun_nat _ _ _⟩
theorem crown_widths.quiet : FunQuiet crown_widths.c.F := mkFun_quiet rfl rfl
noncomputable def crown_widths.ann : Ann :=
  (.seq (.reg []) (.seq (.reg [.inl I]) .std))
noncomputable def crown_widths.code : Code := match Tryz.f150.body with | some c => c | none => .skip
theorem crown_widths.eq : absFn tt 2 crown_widths.ins crown_widths.outs crown_widths.code crown_widths.ann = crown_widths := by
  funext a
  kernel_rfl
theorem crown_widths.ok : crown_widths.ann.ok Tryz.prog 0 2 :=
  ann_ok (by kernel_rfl) (by kernel_rfl) (show ∀ c ∈ ([] : List Callee'), c.ok Tryz.prog from cs_nil)
    (show ∀ c ∈ ([] : List Callee'), FunQuiet c.F from cs_nil)
theorem crown_widths.sound : crown_widths.c.ok Tryz.prog := by
  refine ⟨?_, Tryz.f150, crown_widths.code, Tryz.func150, rfl, by decide⟩
  have h := fn_sound tt_ok mix_ok (x := crown_widths.ann) (ins := crown_widths.ins) (outs := crown_widths.outs) (N := 2) Tryz.func150 (c := crown_widths.code) rfl rfl (by kernel_rfl) (by kernel_rfl) crown_widths.ok (by decide)
  rw [crown_widths.eq] at h
  exact h

/-! ### wainwright/crown.Write: function 110 -/
noncomputable def crown_Write : (Int × Int × Int) → Option (List UInt8 × Int) := fun c0 =>
  (crown_Right (c0.1, c0.2.1, c0.2.2)).bind fun r7 =>
    if (!r7) = true then
      some ((([], 1)))
    else
      (crown_widths ()).bind fun r10 =>
        (mould_Write (r10, ([c0.1, c0.2.1, c0.2.2] : List Int))).bind fun (r18, r18_2) =>
          if (r18_2 != 0) = true then
            some ((([], r18_2)))
          else
            if (([119, 97, 105, 110, 119, 114, 105, 103, 104, 116] : List UInt8)).length + r18.length ≤ 9223372036854775807 then
              (mould_Pad ((([119, 97, 105, 110, 119, 114, 105, 103, 104, 116] : List UInt8)) ++ r18, 128)).bind fun (r26, r26_2) =>
                some (((r26, r26_2)))
            else none

def crown_Write.ins : Spec := ⟨29, 0, [], [0], (.cons (.v (.st (.pair I (.pair I I)))) .nil)⟩
def crown_Write.outs : List Spec := [⟨29, 0, [], [2, 3], (.cons (.v .str) (.cons (.v I) .nil))⟩]
noncomputable def crown_Write.c : Callee' := ⟨110, mkFits crown_Write.ins crown_Write.outs, mkFun crown_Write.ins crown_Write.outs crown_Write, mkFun_nat _ _ _⟩
theorem crown_Write.quiet : FunQuiet crown_Write.c.F := mkFun_quiet rfl rfl
noncomputable def crown_Write.ann : Ann :=
  (.seq (.reg []) (.seq (.seq (.reg [.std, .callq [crown_Right.c]]) (.cond (.seq (.reg []) .std) .std)) (.seq (.drw [.callq [crown_widths.c], .std, .std, .std, .std, .std, .std, .inl I, .callq [mould_Write.c]]) (.seq (.seq (.reg []) (.cond (.seq (.reg []) .std) .std)) (.seq (.reg [.std, .std, .callq [mould_Pad.c]]) .std)))))
noncomputable def crown_Write.code : Code := match Tryz.f110.body with | some c => c | none => .skip
theorem crown_Write.eq : absFn tt 29 crown_Write.ins crown_Write.outs crown_Write.code crown_Write.ann = crown_Write := by
  funext a
  kernel_rfl
theorem crown_Write.ok : crown_Write.ann.ok Tryz.prog 0 29 :=
  ann_ok (by kernel_rfl) (by kernel_rfl) (show ∀ c ∈ ([crown_Right.c, crown_widths.c, mould_Write.c, mould_Pad.c] : List Callee'), c.ok Tryz.prog from cs_cons crown_Right.sound (cs_cons crown_widths.sound (cs_cons mould_Write.sound (cs_cons mould_Pad.sound cs_nil))))
    (show ∀ c ∈ ([crown_Right.c, crown_widths.c, mould_Write.c, mould_Pad.c] : List Callee'), FunQuiet c.F from cs_cons crown_Right.quiet (cs_cons crown_widths.quiet (cs_cons mould_Write.quiet (cs_cons mould_Pad.quiet cs_nil))))
theorem crown_Write.sound : crown_Write.c.ok Tryz.prog := by
  refine ⟨?_, Tryz.f110, crown_Write.code, Tryz.func110, rfl, by decide⟩
  have h := fn_sound tt_ok mix_ok (x := crown_Write.ann) (ins := crown_Write.ins) (outs := crown_Write.outs) (N := 29) Tryz.func110 (c := crown_Write.code) rfl rfl (by kernel_rfl) (by kernel_rfl) crown_Write.ok (by decide)
  rw [crown_Write.eq] at h
  exact h

/-! ### (*wainwright/deal.written).there: function 103 -/
noncomputable def deal_written_there : ((((List (List UInt8) × (List (Int × List UInt8)) × Int × Int) × Bool × Int) × List (Int × List UInt8)) × Int) → Option (Bool) := fun (w0, i1) =>
  if decide (i1 ≥ 0) = true then
    (log_Log_Size w0.1).bind fun r13 =>
      if decide (i1 < r13) = true then
        if decide (i1 < 1) = false then
          some ((decide (i1 > 41)))
        else
          some true
      else
        some false
  else
    some false

def deal_written_there.ins : Spec := ⟨24, 0, [], [0, 1], (.cons (.v (.ptr (.pair (.ptr (.pair (.ptr (.pair (.sl .str) (.pair (.map I .str) (.pair I I)))) (.pair .bool I))) (.map I .str)))) (.cons (.v I) .nil))⟩
def deal_written_there.outs : List Spec := [⟨24, 0, [], [4], (.cons (.v .bool) .nil)⟩]
noncomputable def deal_written_there.c : Callee' := ⟨103, mkFits deal_written_there.ins deal_written_there.outs, mkFun deal_written_there.ins deal_written_there.outs deal_written_there, mkFun_nat _ _ _⟩
theorem deal_written_there.quiet : FunQuiet deal_written_there.c.F := mkFun_quiet rfl rfl
noncomputable def deal_written_there.ann : Ann :=
  (.seq (.reg []) (.seq (.reg [.std, .std, .std, .std, .std, .std, .std, .std, .callq [log_Log_Size.c]]) .std))
noncomputable def deal_written_there.code : Code := match Tryz.f103.body with | some c => c | none => .skip
theorem deal_written_there.eq : absFn tt 24 deal_written_there.ins deal_written_there.outs deal_written_there.code deal_written_there.ann = deal_written_there := by
  funext a
  kernel_rfl
theorem deal_written_there.ok : deal_written_there.ann.ok Tryz.prog 0 24 :=
  ann_ok (by kernel_rfl) (by kernel_rfl) (show ∀ c ∈ ([log_Log_Size.c] : List Callee'), c.ok Tryz.prog from cs_cons log_Log_Size.sound cs_nil)
    (show ∀ c ∈ ([log_Log_Size.c] : List Callee'), FunQuiet c.F from cs_cons log_Log_Size.quiet cs_nil)
theorem deal_written_there.sound : deal_written_there.c.ok Tryz.prog := by
  refine ⟨?_, Tryz.f103, deal_written_there.code, Tryz.func103, rfl, by decide⟩
  have h := fn_sound tt_ok mix_ok (x := deal_written_there.ann) (ins := deal_written_there.ins) (outs := deal_written_there.outs) (N := 24) Tryz.func103 (c := deal_written_there.code) rfl rfl (by kernel_rfl) (by kernel_rfl) deal_written_there.ok (by decide)
  rw [deal_written_there.eq] at h
  exact h

/-! ### (*wainwright/deal.Deal).Write: function 53 -/
noncomputable def deal_Deal_Write_1 : (((Bool × Int) × (List (Int × List UInt8)) × (Int × Int) × List (List UInt8) × List (Int × List UInt8)) × Int × List UInt8) → Option (((Bool × Int) × (List (Int × List UInt8)) × (Int × Int) × List (List UInt8) × List (Int × List UInt8)) × Int) := fun (((o1b, o1c), o2, (o3c, o3d), o4, o5), i1, data2) =>
  (deal_written_there ((((o4, o5, o3c, o3d), o1b, o1c), o2), i1)).bind fun r16 =>
    if (!r16) = true then
      some (((((o1b, o1c), o2, (o3c, o3d), o4, o5), 1)))
    else
      (mould_Pad (data2, 128)).bind fun (r21, r21_2) =>
        if (r21_2 != 0) = true then
          some (((((o1b, o1c), o2, (o3c, o3d), o4, o5), 1)))
        else
          some (((((o1b, o1c), mput (K := I) (V := .str) o2 i1 r21, (o3c, o3d), o4, o5), 0)))

def deal_Deal_Write_1.ins : Spec := ⟨33, 0, [.box (.cons (.ref 1) (.cons (.ref 2) .nil)), .box (.cons (.ref 3) (.cons (.v .bool) (.cons (.v I) .nil))), .map I .str, .box (.cons (.ref 4) (.cons (.ref 5) (.cons (.v I) (.cons (.v I) .nil)))), .arr .str, .map I .str], [0, 1, 2], (.cons (.ref 0) (.cons (.v I) (.cons (.v .str) .nil)))⟩
def deal_Deal_Write_1.outs : List Spec := [⟨33, 6, [.box (.cons (.ref 1) (.cons (.ref 2) .nil)), .box (.cons (.ref 3) (.cons (.v .bool) (.cons (.v I) .nil))), .map I .str, .box (.cons (.ref 4) (.cons (.ref 5) (.cons (.v I) (.cons (.v I) .nil)))), .arr .str, .map I .str], [6], (.cons (.v I) .nil)⟩]
noncomputable def deal_Deal_Write_1.c : Callee' := ⟨53, mkFits deal_Deal_Write_1.ins deal_Deal_Write_1.outs, mkFun deal_Deal_Write_1.ins deal_Deal_Write_1.outs deal_Deal_Write_1, mkFun_nat _ _ _⟩
noncomputable def deal_Deal_Write_1.ann : Ann :=
  (.seq (.reg []) (.seq (.seq (.reg [.std, .obj .bool, .std, .std, .std, .std, .std, .callq [deal_written_there.c]]) (.cond (.seq (.reg []) .std) .std)) (.seq (.reg [.std, .callq [mould_Pad.c]]) (.seq (.seq (.reg []) (.cond (.seq (.reg []) .std) .std)) (.seq (.reg []) (.seq (.reg []) .std))))))
noncomputable def deal_Deal_Write_1.code : Code := match Tryz.f53.body with | some c => c | none => .skip
theorem deal_Deal_Write_1.eq : absFn tt 33 deal_Deal_Write_1.ins deal_Deal_Write_1.outs deal_Deal_Write_1.code deal_Deal_Write_1.ann = deal_Deal_Write_1 := by
  funext a
  kernel_rfl
theorem deal_Deal_Write_1.ok : deal_Deal_Write_1.ann.ok Tryz.prog 6 33 :=
  ann_ok (by kernel_rfl) (by kernel_rfl) (show ∀ c ∈ ([deal_written_there.c, mould_Pad.c] : List Callee'), c.ok Tryz.prog from cs_cons deal_written_there.sound (cs_cons mould_Pad.sound cs_nil))
    (show ∀ c ∈ ([deal_written_there.c, mould_Pad.c] : List Callee'), FunQuiet c.F from cs_cons deal_written_there.quiet (cs_cons mould_Pad.quiet cs_nil))
theorem deal_Deal_Write_1.sound : deal_Deal_Write_1.c.ok Tryz.prog := by
  refine ⟨?_, Tryz.f53, deal_Deal_Write_1.code, Tryz.func53, rfl, by decide⟩
  have h := fn_sound tt_ok mix_ok (x := deal_Deal_Write_1.ann) (ins := deal_Deal_Write_1.ins) (outs := deal_Deal_Write_1.outs) (N := 33) Tryz.func53 (c := deal_Deal_Write_1.code) rfl rfl (by kernel_rfl) (by kernel_rfl) deal_Deal_Write_1.ok (by decide)
  rw [deal_Deal_Write_1.eq] at h
  exact h

/-! ### (*wainwright/deal.Deal).SetCrown: function 54 -/
noncomputable def deal_Deal_SetCrown_1 : (((Bool × Int) × (List (Int × List UInt8)) × (Int × Int) × List (List UInt8) × List (Int × List UInt8)) × Int × Int × Int) → Option (((Bool × Int) × (List (Int × List UInt8)) × (Int × Int) × List (List UInt8) × List (Int × List UInt8)) × Int) := fun (((o1b, o1c), o2, (o3c, o3d), o4, o5), c1) =>
  (log_Log_Size ((o4, o5, o3c, o3d), o1b, o1c)).bind fun r17 =>
    if decide (c1.2.1 > r17) = true then
      some (((((o1b, o1c), o2, (o3c, o3d), o4, o5), 1)))
    else
      (crown_Write (c1.1, c1.2.1, c1.2.2)).bind fun (r22, r22_2) =>
        if (r22_2 != 0) = true then
          some (((((o1b, o1c), o2, (o3c, o3d), o4, o5), r22_2)))
        else
          (deal_Deal_Write_1 (((o1b, o1c), o2, (o3c, o3d), o4, o5), 0, r22)).bind fun (((r30, r30_2), r30_3, (r30_4, r30_5), r30_6, r30_7), r30_8) =>
            some (((((r30, r30_2), r30_3, (r30_4, r30_5), r30_6, r30_7), r30_8)))

def deal_Deal_SetCrown_1.ins : Spec := ⟨31, 0, [.box (.cons (.ref 1) (.cons (.ref 2) .nil)), .box (.cons (.ref 3) (.cons (.v .bool) (.cons (.v I) .nil))), .map I .str, .box (.cons (.ref 4) (.cons (.ref 5) (.cons (.v I) (.cons (.v I) .nil)))), .arr .str, .map I .str], [0, 1], (.cons (.ref 0) (.cons (.v (.st (.pair I (.pair I I)))) .nil))⟩
def deal_Deal_SetCrown_1.outs : List Spec := [⟨31, 6, [.box (.cons (.ref 1) (.cons (.ref 2) .nil)), .box (.cons (.ref 3) (.cons (.v .bool) (.cons (.v I) .nil))), .map I .str, .box (.cons (.ref 4) (.cons (.ref 5) (.cons (.v I) (.cons (.v I) .nil)))), .arr .str, .map I .str], [4], (.cons (.v I) .nil)⟩]
noncomputable def deal_Deal_SetCrown_1.c : Callee' := ⟨54, mkFits deal_Deal_SetCrown_1.ins deal_Deal_SetCrown_1.outs, mkFun deal_Deal_SetCrown_1.ins deal_Deal_SetCrown_1.outs deal_Deal_SetCrown_1, mkFun_nat _ _ _⟩
noncomputable def deal_Deal_SetCrown_1.ann : Ann :=
  (.seq (.reg []) (.seq (.seq (.drw [.std, .inl .bool, .std, .std, .std, .std, .std, .std, .std, .std, .callq [log_Log_Size.c]]) (.cond (.seq (.reg []) .std) .std)) (.seq (.reg [.std, .callq [crown_Write.c]]) (.seq (.seq (.reg []) (.cond (.seq (.reg []) .std) .std)) (.seq (.reg [.std, .std, .call [deal_Deal_Write_1.c]]) .std)))))
noncomputable def deal_Deal_SetCrown_1.code : Code := match Tryz.f54.body with | some c => c | none => .skip
theorem deal_Deal_SetCrown_1.eq : absFn tt 31 deal_Deal_SetCrown_1.ins deal_Deal_SetCrown_1.outs deal_Deal_SetCrown_1.code deal_Deal_SetCrown_1.ann = deal_Deal_SetCrown_1 := by
  funext a
  kernel_rfl
theorem deal_Deal_SetCrown_1.ok : deal_Deal_SetCrown_1.ann.ok Tryz.prog 6 31 :=
  ann_ok (by kernel_rfl) (by kernel_rfl) (show ∀ c ∈ ([log_Log_Size.c, crown_Write.c, deal_Deal_Write_1.c] : List Callee'), c.ok Tryz.prog from cs_cons log_Log_Size.sound (cs_cons crown_Write.sound (cs_cons deal_Deal_Write_1.sound cs_nil)))
    (show ∀ c ∈ ([log_Log_Size.c, crown_Write.c] : List Callee'), FunQuiet c.F from cs_cons log_Log_Size.quiet (cs_cons crown_Write.quiet cs_nil))
theorem deal_Deal_SetCrown_1.sound : deal_Deal_SetCrown_1.c.ok Tryz.prog := by
  refine ⟨?_, Tryz.f54, deal_Deal_SetCrown_1.code, Tryz.func54, rfl, by decide⟩
  have h := fn_sound tt_ok mix_ok (x := deal_Deal_SetCrown_1.ann) (ins := deal_Deal_SetCrown_1.ins) (outs := deal_Deal_SetCrown_1.outs) (N := 31) Tryz.func54 (c := deal_Deal_SetCrown_1.code) rfl rfl (by kernel_rfl) (by kernel_rfl) deal_Deal_SetCrown_1.ok (by decide)
  rw [deal_Deal_SetCrown_1.eq] at h
  exact h

/-! ### wainwright/wainwrightlaw13.begin: function 36 -/
noncomputable def wainwrightlaw13_begin : (Int × List UInt8) → Option (Unit ⊕ (List (List UInt8) × List (List UInt8)) ⊕ ((Bool × Int) × (List (Int × List UInt8)) × List (List UInt8) × List (List UInt8) × (Int × Int) × List (List UInt8) × List (Int × List UInt8))) := fun (n0, m1) =>
  (slab_New n0).bind fun ((r13, r13_2), r13_3, r13_4) =>
    (log_Open ((r13, r13_2), r13_3, r13_4)).bind fun d => match d with
    | .inl (((r16, r16_2), r16_3, r16_4), r16_5) =>
      if (r16_5 != 0) = true then
        some (.inl ())
      else
        (deal_Begin ()).bind fun r23 =>
          if (r23 != 0) = true then
            some (.inl ())
          else
            ((
              if (m1 == []) = true then
                (wainwrightref10_Marks n0).bind fun r31 =>
                  some (((((r16, r16_2), r16_3, r16_4), n0, r31)))
              else
                some (((((r16, r16_2), r16_3, r16_4), n0, m1)))) : Option (((Int × Int) × List (List UInt8) × List (Int × List UInt8)) × Int × List UInt8)).bind fun (((s5c, s5d), o1, o2), n0, m1) =>
              (slab_Image ((s5c, s5d), o1, o2)).bind fun ((_, _, _), r33) =>
                (wainwrightref12_Begin r33).bind fun (r34, r34_2) =>
                  (deal_Deal_SetCrown (1, n0, 0)).bind fun r39 =>
                    if (r39 != 0) = false then
                      if 0 ≤ (if 128 < (m1.length : Int) then 128 else (m1.length : Int)) ∧ (if 128 < (m1.length : Int) then 128 else (m1.length : Int)) ≤ (m1.length : Int) then
                        (deal_Deal_Write (42, m1.take ((if 128 < (m1.length : Int) then 128 else (m1.length : Int))).toNat)).bind fun r48 =>
                          if (r48 != 0) = true then
                            some (.inl ())
                          else
                            (wainwrightref12_Deal_SetCrown ((r34, r34_2), 1, n0, 0)).bind fun ((r53, r53_2), r53_3) =>
                              if 0 ≤ (if 128 < (m1.length : Int) then 128 else (m1.length : Int)) ∧ (if 128 < (m1.length : Int) then 128 else (m1.length : Int)) ≤ (m1.length : Int) then
                                (wainwrightref12_Deal_Write ((r53, r53_2), 42, m1.take ((if 128 < (m1.length : Int) then 128 else (m1.length : Int))).toNat)).bind fun ((r60, r60_2), r60_3) =>
                                  some (.inr (.inl ((r60, r60_2))))
                              else none
                      else none
                    else
                      some (.inl ())
    | .inr ((((r16b, r16_2b), r16_3b, r16_4b, r16_5b, r16_6b), r16_7b)) =>
      if (r16_7b != 0) = true then
        some (.inl ())
      else
        (deal_Begin_2 ((r16_5b, r16_6b), (r16b, r16_2b), r16_3b, r16_4b)).bind fun (((r23a, r23a_2), (r23a_3, r23a_4), r23a_5, r23a_6, r23a_7), r23a_8) =>
          if (r23a_8 != 0) = true then
            some (.inl ())
          else
            ((
              if (m1 == []) = true then
                (wainwrightref10_Marks n0).bind fun r31a =>
                  some (((((r23a_3, r23a_4), r23a_5, r23a_6, (r23a, r23a_2), r23a_7), n0, r31a)))
              else
                some (((((r23a_3, r23a_4), r23a_5, r23a_6, (r23a, r23a_2), r23a_7), n0, m1)))) : Option (((Int × Int) × List (List UInt8) × (List (Int × List UInt8)) × (Bool × Int) × List (Int × List UInt8)) × Int × List UInt8)).bind fun (((s5c, s5d), o2, o3, (o4b, o4c), o5), n0, m1) =>
              (slab_Image ((s5c, s5d), o2, o3)).bind fun ((_, _, _), r33a) =>
                (wainwrightref12_Begin r33a).bind fun (r34a, r34a_2) =>
                  (deal_Deal_SetCrown_1 (((o4b, o4c), o5, (s5c, s5d), o2, o3), 1, n0, 0)).bind fun (((r39a, r39a_2), r39a_3, (r39a_4, r39a_5), r39a_6, r39a_7), r39a_8) =>
                    if (r39a_8 != 0) = false then
                      if 0 ≤ (if 128 < (m1.length : Int) then 128 else (m1.length : Int)) ∧ (if 128 < (m1.length : Int) then 128 else (m1.length : Int)) ≤ (m1.length : Int) then
                        (deal_Deal_Write_1 (((r39a, r39a_2), r39a_3, (r39a_4, r39a_5), r39a_6, r39a_7), 42, m1.take ((if 128 < (m1.length : Int) then 128 else (m1.length : Int))).toNat)).bind fun (((r48a, r48a_2), r48a_3, (r48a_4, r48a_5), r48a_6, r48a_7), r48a_8) =>
                          if (r48a_8 != 0) = true then
                            some (.inl ())
                          else
                            (wainwrightref12_Deal_SetCrown ((r34a, r34a_2), 1, n0, 0)).bind fun ((r53a, r53a_2), r53a_3) =>
                              if 0 ≤ (if 128 < (m1.length : Int) then 128 else (m1.length : Int)) ∧ (if 128 < (m1.length : Int) then 128 else (m1.length : Int)) ≤ (m1.length : Int) then
                                (wainwrightref12_Deal_Write ((r53a, r53a_2), 42, m1.take ((if 128 < (m1.length : Int) then 128 else (m1.length : Int))).toNat)).bind fun ((r60a, r60a_2), r60a_3) =>
                                  some (.inr (.inr ((((r48a, r48a_2), r48a_3, r60a, r60a_2, (r48a_4, r48a_5), r48a_6, r48a_7)))))
                              else none
                      else none
                    else
                      some (.inl ())

def wainwrightlaw13_begin.ins : Spec := ⟨65, 0, [], [0, 1], (.cons (.v I) (.cons (.v .str) .nil))⟩
def wainwrightlaw13_begin.outs : List Spec := [⟨65, 0, [], [4], (.cons (.nilptr) .nil)⟩, ⟨65, 0, [.box (.cons (.nilptr) (.cons (.ref 1) .nil)), .box (.cons (.ref 2) (.cons (.ref 3) .nil)), .arr .str, .arr .str], [4], (.cons (.ref 0) .nil)⟩, ⟨65, 0, [.box (.cons (.ref 1) (.cons (.ref 2) .nil)), .box (.cons (.ref 3) (.cons (.ref 4) .nil)), .box (.cons (.ref 5) (.cons (.ref 6) .nil)), .box (.cons (.ref 7) (.cons (.v .bool) (.cons (.v I) .nil))), .map I .str, .arr .str, .arr .str, .box (.cons (.ref 8) (.cons (.ref 9) (.cons (.v I) (.cons (.v I) .nil)))), .arr .str, .map I .str], [4], (.cons (.ref 0) .nil)⟩]
noncomputable def wainwrightlaw13_begin.c : Callee' := ⟨36, mkFits wainwrightlaw13_begin.ins wainwrightlaw13_begin.outs, mkFun wainwrightlaw13_begin.ins wainwrightlaw13_begin.outs wainwrightlaw13_begin, mkFun_nat _ _ _⟩
noncomputable def wainwrightlaw13_begin.ann : Ann :=
  (.seq (.reg []) (.seq (.reg [.std, .call [slab_New.c]]) (.seq (.reg [.std, .call [log_Open.c]]) (.seq (.seq (.reg []) (.cond (.seq (.reg []) .std) .std)) (.seq (.reg [.std, .call [deal_Begin.c, deal_Begin_2.c]]) (.seq (.seq (.reg []) (.cond (.seq (.reg []) .std) .std)) (.join [(.norm, ⟨65, 0, [.box (.cons (.ref 2) (.cons (.ref 3) (.cons (.v I) (.cons (.v I) .nil)))), .box (.cons (.ref 4) (.cons (.ref 5) .nil)), .arr .str, .map I .str, .box (.cons (.ref 0) (.cons (.v .bool) (.cons (.v I) .nil))), .map I .str], [0, 1, 5, 8], (.cons (.v I) (.cons (.v .str) (.cons (.ref 0) (.cons (.ref 1) .nil))))⟩)]
  (.seq (.reg []) (.cond (.reg [.std, .callq [wainwrightref10_Marks.c]]) .std)) (.seq (.reg [.std, .callq [slab_Image.c], .call [wainwrightref12_Begin.c]]) (.seq (.reg []) (.seq (.seq (.reg [.std, .std, .call [deal_Deal_SetCrown.c, deal_Deal_SetCrown_1.c], .std, .std, .std, .std, .std, .std, .std, .std, .call [deal_Deal_Write.c, deal_Deal_Write_1.c]]) (.cond (.seq (.reg []) .std) .std)) (.seq (.reg [.std, .std, .call [wainwrightref12_Deal_SetCrown.c]]) (.seq (.reg [.std, .std, .std, .std, .std, .std, .call [wainwrightref12_Deal_Write.c]]) (.seq (.reg []) .std)))))))))))))
noncomputable def wainwrightlaw13_begin.code : Code := match Tryz.f36.body with | some c => c | none => .skip
theorem wainwrightlaw13_begin.eq : absFn tt 65 wainwrightlaw13_begin.ins wainwrightlaw13_begin.outs wainwrightlaw13_begin.code wainwrightlaw13_begin.ann = wainwrightlaw13_begin := by
  funext a
  kernel_rfl
theorem wainwrightlaw13_begin.ok : wainwrightlaw13_begin.ann.ok Tryz.prog 0 65 :=
  ann_ok (by kernel_rfl) (by kernel_rfl) (show ∀ c ∈ ([slab_New.c, log_Open.c, deal_Begin.c, deal_Begin_2.c, wainwrightref10_Marks.c, slab_Image.c, wainwrightref12_Begin.c, deal_Deal_SetCrown.c, deal_Deal_SetCrown_1.c, deal_Deal_Write.c, deal_Deal_Write_1.c, wainwrightref12_Deal_SetCrown.c, wainwrightref12_Deal_Write.c] : List Callee'), c.ok Tryz.prog from cs_cons slab_New.sound (cs_cons log_Open.sound (cs_cons deal_Begin.sound (cs_cons deal_Begin_2.sound (cs_cons wainwrightref10_Marks.sound (cs_cons slab_Image.sound (cs_cons wainwrightref12_Begin.sound (cs_cons deal_Deal_SetCrown.sound (cs_cons deal_Deal_SetCrown_1.sound (cs_cons deal_Deal_Write.sound (cs_cons deal_Deal_Write_1.sound (cs_cons wainwrightref12_Deal_SetCrown.sound (cs_cons wainwrightref12_Deal_Write.sound cs_nil)))))))))))))
    (show ∀ c ∈ ([wainwrightref10_Marks.c, slab_Image.c] : List Callee'), FunQuiet c.F from cs_cons wainwrightref10_Marks.quiet (cs_cons slab_Image.quiet cs_nil))
theorem wainwrightlaw13_begin.sound : wainwrightlaw13_begin.c.ok Tryz.prog := by
  refine ⟨?_, Tryz.f36, wainwrightlaw13_begin.code, Tryz.func36, rfl, by decide⟩
  have h := fn_sound tt_ok mix_ok (x := wainwrightlaw13_begin.ann) (ins := wainwrightlaw13_begin.ins) (outs := wainwrightlaw13_begin.outs) (N := 65) Tryz.func36 (c := wainwrightlaw13_begin.code) rfl rfl (by kernel_rfl) (by kernel_rfl) wainwrightlaw13_begin.ok (by decide)
  rw [wainwrightlaw13_begin.eq] at h
  exact h

/-! ### (*wainwright/deal.Deal).Crown: function 50 -/
noncomputable def deal_Deal_Crown : Unit → Option ((Int × Int × Int) × Int) := fun _ =>
  some ((((0, 0, 0), 1)))

def deal_Deal_Crown.ins : Spec := ⟨32, 0, [], [0], (.cons (.nilptr) .nil)⟩
def deal_Deal_Crown.outs : List Spec := [⟨33, 0, [], [32, 3], (.cons (.v (.st (.pair I (.pair I I)))) (.cons (.v I) .nil))⟩]
noncomputable def deal_Deal_Crown.c : Callee' := ⟨50, mkFits deal_Deal_Crown.ins deal_Deal_Crown.outs, mkFun deal_Deal_Crown.ins deal_Deal_Crown.outs deal_Deal_Crown, mkFun_nat _ _ _⟩
theorem deal_Deal_Crown.quiet : FunQuiet deal_Deal_Crown.c.F := mkFun_quiet rfl rfl
noncomputable def deal_Deal_Crown.ann : Ann :=
  (.seq (.reg []) (.seq (.seq (.reg [.std, .obj .bool]) (.cond (.seq (.reg []) .std) .std)) (.seq (.reg []) (.seq (.seq (.drw [.std, .std, .std, .std, .std, .std, .std, .std, .std, .std, .callq []]) (.cond (.seq (.reg []) .std) .std)) (.seq (.reg []) .std)))))
noncomputable def deal_Deal_Crown.code : Code := match Tryz.f50.body with | some c => c | none => .skip
theorem deal_Deal_Crown.eq : absFnR tt 32 [(2, 81)] deal_Deal_Crown.ins deal_Deal_Crown.outs deal_Deal_Crown.code deal_Deal_Crown.ann = deal_Deal_Crown := by
  funext a
  kernel_rfl
theorem deal_Deal_Crown.ok : deal_Deal_Crown.ann.ok Tryz.prog 0 32 :=
  ann_ok (by kernel_rfl) (by kernel_rfl) (show ∀ c ∈ ([] : List Callee'), c.ok Tryz.prog from cs_nil)
    (show ∀ c ∈ ([] : List Callee'), FunQuiet c.F from cs_nil)
theorem deal_Deal_Crown.sound : deal_Deal_Crown.c.ok Tryz.prog := by
  refine ⟨?_, Tryz.f50, deal_Deal_Crown.code, Tryz.func50, rfl, by decide⟩
  have h := fn_soundR tt_ok mix_ok (x := deal_Deal_Crown.ann) (ins := deal_Deal_Crown.ins) (outs := deal_Deal_Crown.outs) (N := 32) (cells := [(2, 81)]) Tryz.func50 (c := deal_Deal_Crown.code) rfl rfl (by kernel_rfl) (by kernel_rfl) (by kernel_rfl) deal_Deal_Crown.ok (by decide)
  rw [deal_Deal_Crown.eq] at h
  exact h

/-! ### (*wainwright/deal.Deal).Read: function 49 -/
noncomputable def deal_Deal_Read : Int → Option (List UInt8 × Int) := fun i1 =>
  some ((([], 1)))

def deal_Deal_Read.ins : Spec := ⟨21, 0, [], [0, 1], (.cons (.nilptr) (.cons (.v I) .nil))⟩
def deal_Deal_Read.outs : List Spec := [⟨21, 0, [], [4, 5], (.cons (.v .str) (.cons (.v I) .nil))⟩]
noncomputable def deal_Deal_Read.c : Callee' := ⟨49, mkFits deal_Deal_Read.ins deal_Deal_Read.outs, mkFun deal_Deal_Read.ins deal_Deal_Read.outs deal_Deal_Read, mkFun_nat _ _ _⟩
theorem deal_Deal_Read.quiet : FunQuiet deal_Deal_Read.c.F := mkFun_quiet rfl rfl
noncomputable def deal_Deal_Read.ann : Ann :=
  (.seq (.reg []) (.seq (.seq (.reg [.std, .obj .bool]) (.cond (.seq (.reg []) .std) .std)) (.seq (.reg []) .std)))
noncomputable def deal_Deal_Read.code : Code := match Tryz.f49.body with | some c => c | none => .skip
theorem deal_Deal_Read.eq : absFn tt 21 deal_Deal_Read.ins deal_Deal_Read.outs deal_Deal_Read.code deal_Deal_Read.ann = deal_Deal_Read := by
  funext a
  kernel_rfl
theorem deal_Deal_Read.ok : deal_Deal_Read.ann.ok Tryz.prog 0 21 :=
  ann_ok (by kernel_rfl) (by kernel_rfl) (show ∀ c ∈ ([] : List Callee'), c.ok Tryz.prog from cs_nil)
    (show ∀ c ∈ ([] : List Callee'), FunQuiet c.F from cs_nil)
theorem deal_Deal_Read.sound : deal_Deal_Read.c.ok Tryz.prog := by
  refine ⟨?_, Tryz.f49, deal_Deal_Read.code, Tryz.func49, rfl, by decide⟩
  have h := fn_sound tt_ok mix_ok (x := deal_Deal_Read.ann) (ins := deal_Deal_Read.ins) (outs := deal_Deal_Read.outs) (N := 21) Tryz.func49 (c := deal_Deal_Read.code) rfl rfl (by kernel_rfl) (by kernel_rfl) deal_Deal_Read.ok (by decide)
  rw [deal_Deal_Read.eq] at h
  exact h

/-! ### wainwright/stock.open: function 89 -/
noncomputable def stock_open : Unit → Option (Int ⊕ ((Int × Int × Int × List UInt8) × Int)) := fun _ =>
  (deal_Deal_Crown ()).bind fun (r9, r9_2) =>
    if (r9_2 != 0) = true then
      some (.inl r9_2)
    else
      (deal_Deal_Read 42).bind fun (r17, r17_2) =>
        if (r17_2 != 0) = true then
          some (.inl r17_2)
        else
          some (.inr ((((r9.1, r9.2.1, r9.2.2, r17), 0))))

def stock_open.ins : Spec := ⟨28, 0, [], [0], (.cons (.nilptr) .nil)⟩
def stock_open.outs : List Spec := [⟨28, 0, [], [2, 3], (.cons (.nilptr) (.cons (.v I) .nil))⟩, ⟨28, 0, [.box (.cons (.nilptr) (.cons (.v I) (.cons (.v I) (.cons (.v I) (.cons (.v .str) .nil)))))], [2, 3], (.cons (.ref 0) (.cons (.v I) .nil))⟩]
noncomputable def stock_open.c : Callee' := ⟨89, mkFits stock_open.ins stock_open.outs, mkFun stock_open.ins stock_open.outs stock_open, mkFun_nat _ _ _⟩
noncomputable def stock_open.ann : Ann :=
  (.seq (.reg []) (.seq (.reg [.std, .callq [deal_Deal_Crown.c]]) (.seq (.seq (.reg []) (.cond (.seq (.reg []) .std) .std)) (.seq (.reg [.std, .callq [deal_Deal_Read.c]]) (.seq (.seq (.reg []) (.cond (.seq (.reg []) .std) .std)) (.seq (.reg []) .std))))))
noncomputable def stock_open.code : Code := match Tryz.f89.body with | some c => c | none => .skip
theorem stock_open.eq : absFn tt 28 stock_open.ins stock_open.outs stock_open.code stock_open.ann = stock_open := by
  funext a
  kernel_rfl
theorem stock_open.ok : stock_open.ann.ok Tryz.prog 0 28 :=
  ann_ok (by kernel_rfl) (by kernel_rfl) (show ∀ c ∈ ([deal_Deal_Crown.c, deal_Deal_Read.c] : List Callee'), c.ok Tryz.prog from cs_cons deal_Deal_Crown.sound (cs_cons deal_Deal_Read.sound cs_nil))
    (show ∀ c ∈ ([deal_Deal_Crown.c, deal_Deal_Read.c] : List Callee'), FunQuiet c.F from cs_cons deal_Deal_Crown.quiet (cs_cons deal_Deal_Read.quiet cs_nil))
theorem stock_open.sound : stock_open.c.ok Tryz.prog := by
  refine ⟨?_, Tryz.f89, stock_open.code, Tryz.func89, rfl, by decide⟩
  have h := fn_sound tt_ok mix_ok (x := stock_open.ann) (ins := stock_open.ins) (outs := stock_open.outs) (N := 28) Tryz.func89 (c := stock_open.code) rfl rfl (by kernel_rfl) (by kernel_rfl) stock_open.ok (by decide)
  rw [stock_open.eq] at h
  exact h

/-! ### wainwright/marks.there: function 143 -/
noncomputable def marks_there : (List UInt8 × Int) → Option (Bool) := fun (m0, i1) =>
  if decide (i1 ≥ 0) = true then
    some ((decide (i1 < IntKind.i64.wrap (8 * (m0.length : Int)))))
  else
    some false

def marks_there.ins : Spec := ⟨14, 0, [], [0, 1], (.cons (.v .str) (.cons (.v I) .nil))⟩
def marks_there.outs : List Spec := [⟨14, 0, [], [4], (.cons (.v .bool) .nil)⟩]
noncomputable def marks_there.c : Callee' := ⟨143, mkFits marks_there.ins marks_there.outs, mkFun marks_there.ins marks_there.outs marks_there, mkFun_nat _ _ _⟩
theorem marks_there.quiet : FunQuiet marks_there.c.F := mkFun_quiet rfl rfl
noncomputable def marks_there.ann : Ann :=
  (.seq (.reg []) (.seq (.reg []) .std))
noncomputable def marks_there.code : Code := match Tryz.f143.body with | some c => c | none => .skip
theorem marks_there.eq : absFn tt 14 marks_there.ins marks_there.outs marks_there.code marks_there.ann = marks_there := by
  funext a
  kernel_rfl
theorem marks_there.ok : marks_there.ann.ok Tryz.prog 0 14 :=
  ann_ok (by kernel_rfl) (by kernel_rfl) (show ∀ c ∈ ([] : List Callee'), c.ok Tryz.prog from cs_nil)
    (show ∀ c ∈ ([] : List Callee'), FunQuiet c.F from cs_nil)
theorem marks_there.sound : marks_there.c.ok Tryz.prog := by
  refine ⟨?_, Tryz.f143, marks_there.code, Tryz.func143, rfl, by decide⟩
  have h := fn_sound tt_ok mix_ok (x := marks_there.ann) (ins := marks_there.ins) (outs := marks_there.outs) (N := 14) Tryz.func143 (c := marks_there.code) rfl rfl (by kernel_rfl) (by kernel_rfl) marks_there.ok (by decide)
  rw [marks_there.eq] at h
  exact h

/-! ### wainwright/marks.Is: function 93 -/
noncomputable def marks_Is : (List UInt8 × Int) → Option (Bool) := fun (m0, i1) =>
  (marks_there (m0, i1)).bind fun r7 =>
    if (!r7) = false then
      if 0 ≤ IntKind.i64.wrap (Int.tdiv i1 8) ∧ IntKind.i64.wrap (Int.tdiv i1 8) < (m0.length : Int) then
        if 0 ≤ Int.tmod i1 8 then
          some (((bitsOp .and .u8 (Int.fdiv ((m0.getD ((IntKind.i64.wrap (Int.tdiv i1 8)).toNat) 0).toNat : Int) (2 ^ (min (Int.tmod i1 8).toNat 8))) 1 == 1)))
        else none
      else none
    else
      some true

def marks_Is.ins : Spec := ⟨20, 0, [], [0, 1], (.cons (.v .str) (.cons (.v I) .nil))⟩
def marks_Is.outs : List Spec := [⟨20, 0, [], [4], (.cons (.v .bool) .nil)⟩]
noncomputable def marks_Is.c : Callee' := ⟨93, mkFits marks_Is.ins marks_Is.outs, mkFun marks_Is.ins marks_Is.outs marks_Is, mkFun_nat _ _ _⟩
theorem marks_Is.quiet : FunQuiet marks_Is.c.F := mkFun_quiet rfl rfl
noncomputable def marks_Is.ann : Ann :=
  (.seq (.reg []) (.seq (.reg [.std, .std, .callq [marks_there.c]]) .std))
noncomputable def marks_Is.code : Code := match Tryz.f93.body with | some c => c | none => .skip
theorem marks_Is.eq : absFn tt 20 marks_Is.ins marks_Is.outs marks_Is.code marks_Is.ann = marks_Is := by
  funext a
  kernel_rfl
theorem marks_Is.ok : marks_Is.ann.ok Tryz.prog 0 20 :=
  ann_ok (by kernel_rfl) (by kernel_rfl) (show ∀ c ∈ ([marks_there.c] : List Callee'), c.ok Tryz.prog from cs_cons marks_there.sound cs_nil)
    (show ∀ c ∈ ([marks_there.c] : List Callee'), FunQuiet c.F from cs_cons marks_there.quiet cs_nil)
theorem marks_Is.sound : marks_Is.c.ok Tryz.prog := by
  refine ⟨?_, Tryz.f93, marks_Is.code, Tryz.func93, rfl, by decide⟩
  have h := fn_sound tt_ok mix_ok (x := marks_Is.ann) (ins := marks_Is.ins) (outs := marks_Is.outs) (N := 20) Tryz.func93 (c := marks_Is.code) rfl rfl (by kernel_rfl) (by kernel_rfl) marks_Is.ok (by decide)
  rw [marks_Is.eq] at h
  exact h

/-! ### wainwright/marks.Set: function 94 -/
noncomputable def marks_Set : (List UInt8 × Int × Bool) → Option (List UInt8) := fun (m0, i1, yes2) =>
  (marks_there (m0, i1)).bind fun r10 =>
    if (!r10) = false then
      (marks_Is (m0, i1)).bind fun r15 =>
        if (r15 == yes2) = true then
          some m0
        else
          if 0 ≤ IntKind.i64.wrap (Int.tdiv i1 8) ∧ IntKind.i64.wrap (Int.tdiv i1 8) < ((m0.map fun b => (b.toNat : Int)).length : Int) then
            if 0 ≤ Int.tmod i1 8 then
              if 0 ≤ IntKind.i64.wrap (Int.tdiv i1 8) ∧ IntKind.i64.wrap (Int.tdiv i1 8) < ((m0.map fun b => (b.toNat : Int)).length : Int) then
                some ((((m0.map fun b => (b.toNat : Int)).set ((IntKind.i64.wrap (Int.tdiv i1 8)).toNat) (bitsOp .xor .u8 ((m0.map fun b => (b.toNat : Int)).getD ((IntKind.i64.wrap (Int.tdiv i1 8)).toNat) 0) (IntKind.u8.wrap (1 * 2 ^ (min (Int.tmod i1 8).toNat 8))))).map fun (n : Int) => UInt8.ofNat n.toNat))
              else none
            else none
          else none
    else
      some m0

def marks_Set.ins : Spec := ⟨34, 0, [], [0, 1, 2], (.cons (.v .str) (.cons (.v I) (.cons (.v .bool) .nil)))⟩
def marks_Set.outs : List Spec := [⟨34, 0, [], [6], (.cons (.v .str) .nil)⟩]
noncomputable def marks_Set.c : Callee' := ⟨94, mkFits marks_Set.ins marks_Set.outs, mkFun marks_Set.ins marks_Set.outs marks_Set, mkFun_nat _ _ _⟩
theorem marks_Set.quiet : FunQuiet marks_Set.c.F := mkFun_quiet rfl rfl
noncomputable def marks_Set.ann : Ann :=
  (.seq (.reg []) (.seq (.seq (.reg [.std, .std, .callq [marks_there.c], .std, .std, .std, .std, .callq [marks_Is.c]]) (.cond (.seq (.reg []) .std) .std)) (.seq (.reg [.std, .obj (.int .u8)]) (.seq (.drw []) (.seq (.reg []) .std)))))
noncomputable def marks_Set.code : Code := match Tryz.f94.body with | some c => c | none => .skip
theorem marks_Set.eq : absFn tt 34 marks_Set.ins marks_Set.outs marks_Set.code marks_Set.ann = marks_Set := by
  funext a
  kernel_rfl
theorem marks_Set.ok : marks_Set.ann.ok Tryz.prog 0 34 :=
  ann_ok (by kernel_rfl) (by kernel_rfl) (show ∀ c ∈ ([marks_there.c, marks_Is.c] : List Callee'), c.ok Tryz.prog from cs_cons marks_there.sound (cs_cons marks_Is.sound cs_nil))
    (show ∀ c ∈ ([marks_there.c, marks_Is.c] : List Callee'), FunQuiet c.F from cs_cons marks_there.quiet (cs_cons marks_Is.quiet cs_nil))
theorem marks_Set.sound : marks_Set.c.ok Tryz.prog := by
  refine ⟨?_, Tryz.f94, marks_Set.code, Tryz.func94, rfl, by decide⟩
  have h := fn_sound tt_ok mix_ok (x := marks_Set.ann) (ins := marks_Set.ins) (outs := marks_Set.outs) (N := 34) Tryz.func94 (c := marks_Set.code) rfl rfl (by kernel_rfl) (by kernel_rfl) marks_Set.ok (by decide)
  rw [marks_Set.eq] at h
  exact h

/-! ### wainwright/stock.low: function 96 -/
noncomputable def stock_low.l1 : (List UInt8 × Int) → Option ((List UInt8 × Int) ⊕ (List UInt8)) := fun (m0, t4) =>
  if decide (t4 < 51) = true then
    (marks_Set (m0, t4, true)).bind fun r9 =>
      some (.inl ((r9, IntKind.i64.wrap (t4 + 1))))
  else
    some (.inr m0)

noncomputable def stock_low : List UInt8 → Option (List UInt8) := fun m0 =>
  (loopO stock_low.l1 ((m0, 0))).bind fun m0 =>
    some m0

def stock_low.ins : Spec := ⟨12, 0, [], [0], (.cons (.v .str) .nil)⟩
def stock_low.outs : List Spec := [⟨12, 0, [], [2], (.cons (.v .str) .nil)⟩]
noncomputable def stock_low.c : Callee' := ⟨96, mkFits stock_low.ins stock_low.outs, mkFun stock_low.ins stock_low.outs stock_low, mkFun_nat _ _ _⟩
theorem stock_low.quiet : FunQuiet stock_low.c.F := mkFun_quiet rfl rfl
noncomputable def stock_low.ann : Ann :=
  (.seq (.reg []) (.seq (.seq (.reg []) (.block (.loop ⟨12, 0, [], [0, 4], (.cons (.v .str) (.cons (.v I) .nil))⟩ [(.exit 0, ⟨12, 0, [], [0], (.cons (.v .str) .nil)⟩)]
  (.seq (.reg []) (.seq (.cond .std .std) (.seq (.block (.seq (.reg []) (.reg [.std, .std, .callq [marks_Set.c]]))) (.reg []))))))) (.seq (.reg []) .std)))
noncomputable def stock_low.code : Code := match Tryz.f96.body with | some c => c | none => .skip
theorem stock_low.eq : absFn tt 12 stock_low.ins stock_low.outs stock_low.code stock_low.ann = stock_low := by
  funext a
  kernel_rfl
theorem stock_low.ok : stock_low.ann.ok Tryz.prog 0 12 :=
  ann_ok (by kernel_rfl) (by kernel_rfl) (show ∀ c ∈ ([marks_Set.c] : List Callee'), c.ok Tryz.prog from cs_cons marks_Set.sound cs_nil)
    (show ∀ c ∈ ([marks_Set.c] : List Callee'), FunQuiet c.F from cs_cons marks_Set.quiet cs_nil)
theorem stock_low.sound : stock_low.c.ok Tryz.prog := by
  refine ⟨?_, Tryz.f96, stock_low.code, Tryz.func96, rfl, by decide⟩
  have h := fn_sound tt_ok mix_ok (x := stock_low.ann) (ins := stock_low.ins) (outs := stock_low.outs) (N := 12) Tryz.func96 (c := stock_low.code) rfl rfl (by kernel_rfl) (by kernel_rfl) stock_low.ok (by decide)
  rw [stock_low.eq] at h
  exact h

/-! ### math/bits.OnesCount8: function 144 -/
noncomputable def bits_OnesCount8 : Int → Option (Int) := fun x0 =>
  if 0 ≤ x0 ∧ x0 < ((([0, 1, 1, 2, 1, 2, 2, 3, 1, 2, 2, 3, 2, 3, 3, 4, 1, 2, 2, 3, 2, 3, 3, 4, 2, 3, 3, 4, 3, 4, 4, 5, 1, 2, 2, 3, 2, 3, 3, 4, 2, 3, 3, 4, 3, 4, 4, 5, 2, 3, 3, 4, 3, 4, 4, 5, 3, 4, 4, 5, 4, 5, 5, 6, 1, 2, 2, 3, 2, 3, 3, 4, 2, 3, 3, 4, 3, 4, 4, 5, 2, 3, 3, 4, 3, 4, 4, 5, 3, 4, 4, 5, 4, 5, 5, 6, 2, 3, 3, 4, 3, 4, 4, 5, 3, 4, 4, 5, 4, 5, 5, 6, 3, 4, 4, 5, 4, 5, 5, 6, 4, 5, 5, 6, 5, 6, 6, 7, 1, 2, 2, 3, 2, 3, 3, 4, 2, 3, 3, 4, 3, 4, 4, 5, 2, 3, 3, 4, 3, 4, 4, 5, 3, 4, 4, 5, 4, 5, 5, 6, 2, 3, 3, 4, 3, 4, 4, 5, 3, 4, 4, 5, 4, 5, 5, 6, 3, 4, 4, 5, 4, 5, 5, 6, 4, 5, 5, 6, 5, 6, 6, 7, 2, 3, 3, 4, 3, 4, 4, 5, 3, 4, 4, 5, 4, 5, 5, 6, 3, 4, 4, 5, 4, 5, 5, 6, 4, 5, 5, 6, 5, 6, 6, 7, 3, 4, 4, 5, 4, 5, 5, 6, 4, 5, 5, 6, 5, 6, 6, 7, 4, 5, 5, 6, 5, 6, 6, 7, 5, 6, 6, 7, 6, 7, 7, 8] : List UInt8)).length : Int) then
    some ((IntKind.i64.wrap ((((([0, 1, 1, 2, 1, 2, 2, 3, 1, 2, 2, 3, 2, 3, 3, 4, 1, 2, 2, 3, 2, 3, 3, 4, 2, 3, 3, 4, 3, 4, 4, 5, 1, 2, 2, 3, 2, 3, 3, 4, 2, 3, 3, 4, 3, 4, 4, 5, 2, 3, 3, 4, 3, 4, 4, 5, 3, 4, 4, 5, 4, 5, 5, 6, 1, 2, 2, 3, 2, 3, 3, 4, 2, 3, 3, 4, 3, 4, 4, 5, 2, 3, 3, 4, 3, 4, 4, 5, 3, 4, 4, 5, 4, 5, 5, 6, 2, 3, 3, 4, 3, 4, 4, 5, 3, 4, 4, 5, 4, 5, 5, 6, 3, 4, 4, 5, 4, 5, 5, 6, 4, 5, 5, 6, 5, 6, 6, 7, 1, 2, 2, 3, 2, 3, 3, 4, 2, 3, 3, 4, 3, 4, 4, 5, 2, 3, 3, 4, 3, 4, 4, 5, 3, 4, 4, 5, 4, 5, 5, 6, 2, 3, 3, 4, 3, 4, 4, 5, 3, 4, 4, 5, 4, 5, 5, 6, 3, 4, 4, 5, 4, 5, 5, 6, 4, 5, 5, 6, 5, 6, 6, 7, 2, 3, 3, 4, 3, 4, 4, 5, 3, 4, 4, 5, 4, 5, 5, 6, 3, 4, 4, 5, 4, 5, 5, 6, 4, 5, 5, 6, 5, 6, 6, 7, 3, 4, 4, 5, 4, 5, 5, 6, 4, 5, 5, 6, 5, 6, 6, 7, 4, 5, 5, 6, 5, 6, 6, 7, 5, 6, 6, 7, 6, 7, 7, 8] : List UInt8)).getD x0.toNat 0).toNat : Int))))
  else none

def bits_OnesCount8.ins : Spec := ⟨6, 0, [], [0], (.cons (.v (.int .u8)) .nil)⟩
def bits_OnesCount8.outs : List Spec := [⟨6, 0, [], [2], (.cons (.v I) .nil)⟩]
noncomputable def bits_OnesCount8.c : Callee' := ⟨144, mkFits bits_OnesCount8.ins bits_OnesCount8.outs, mkFun bits_OnesCount8.ins bits_OnesCount8.outs bits_OnesCount8, mkFun_nat _ _ _⟩
theorem bits_OnesCount8.quiet : FunQuiet bits_OnesCount8.c.F := mkFun_quiet rfl rfl
noncomputable def bits_OnesCount8.ann : Ann :=
  (.seq (.reg []) (.seq (.reg []) .std))
noncomputable def bits_OnesCount8.code : Code := match Tryz.f144.body with | some c => c | none => .skip
theorem bits_OnesCount8.eq : absFn tt 6 bits_OnesCount8.ins bits_OnesCount8.outs bits_OnesCount8.code bits_OnesCount8.ann = bits_OnesCount8 := by
  funext a
  kernel_rfl
theorem bits_OnesCount8.ok : bits_OnesCount8.ann.ok Tryz.prog 0 6 :=
  ann_ok (by kernel_rfl) (by kernel_rfl) (show ∀ c ∈ ([] : List Callee'), c.ok Tryz.prog from cs_nil)
    (show ∀ c ∈ ([] : List Callee'), FunQuiet c.F from cs_nil)
theorem bits_OnesCount8.sound : bits_OnesCount8.c.ok Tryz.prog := by
  refine ⟨?_, Tryz.f144, bits_OnesCount8.code, Tryz.func144, rfl, by decide⟩
  have h := fn_sound tt_ok mix_ok (x := bits_OnesCount8.ann) (ins := bits_OnesCount8.ins) (outs := bits_OnesCount8.outs) (N := 6) Tryz.func144 (c := bits_OnesCount8.code) rfl rfl (by kernel_rfl) (by kernel_rfl) bits_OnesCount8.ok (by decide)
  rw [bits_OnesCount8.eq] at h
  exact h

/-! ### wainwright/marks.Count: function 95 -/
noncomputable def marks_Count.l1 : (List UInt8 × Int × Int × Int × List Int × Int × Int) → Option ((List UInt8 × Int × Int × Int × List Int × Int × Int) ⊕ (List UInt8 × Int × Int × Int)) := fun (m0, n1, whole5, c6, t27, t28, t29) =>
  if decide (t29 < t28) = true then
    if 0 ≤ t29 ∧ t29 < (t27.length : Int) then
      (bits_OnesCount8 (t27.getD t29.toNat 0)).bind fun r35 =>
        some (.inl ((m0, n1, whole5, IntKind.i64.wrap (c6 + r35), t27, t28, IntKind.i64.wrap (t29 + 1))))
    else none
  else
    some (.inr (((m0, n1, whole5, c6))))

noncomputable def marks_Count : (List UInt8 × Int) → Option (Int) := fun (m0, n1) =>
  if 0 ≤ (if (m0.length : Int) < IntKind.i64.wrap (Int.tdiv (if 100000 < (if 0 > n1 then 0 else n1) then 100000 else (if 0 > n1 then 0 else n1)) 8) then (m0.length : Int) else IntKind.i64.wrap (Int.tdiv (if 100000 < (if 0 > n1 then 0 else n1) then 100000 else (if 0 > n1 then 0 else n1)) 8)) ∧ (if (m0.length : Int) < IntKind.i64.wrap (Int.tdiv (if 100000 < (if 0 > n1 then 0 else n1) then 100000 else (if 0 > n1 then 0 else n1)) 8) then (m0.length : Int) else IntKind.i64.wrap (Int.tdiv (if 100000 < (if 0 > n1 then 0 else n1) then 100000 else (if 0 > n1 then 0 else n1)) 8)) ≤ (m0.length : Int) then
    (loopO marks_Count.l1 ((m0, (if 100000 < (if 0 > n1 then 0 else n1) then 100000 else (if 0 > n1 then 0 else n1)), (if (m0.length : Int) < IntKind.i64.wrap (Int.tdiv (if 100000 < (if 0 > n1 then 0 else n1) then 100000 else (if 0 > n1 then 0 else n1)) 8) then (m0.length : Int) else IntKind.i64.wrap (Int.tdiv (if 100000 < (if 0 > n1 then 0 else n1) then 100000 else (if 0 > n1 then 0 else n1)) 8)), (if 0 > IntKind.i64.wrap ((if 100000 < (if 0 > n1 then 0 else n1) then 100000 else (if 0 > n1 then 0 else n1)) - (IntKind.i64.wrap (8 * (m0.length : Int)))) then 0 else IntKind.i64.wrap ((if 100000 < (if 0 > n1 then 0 else n1) then 100000 else (if 0 > n1 then 0 else n1)) - (IntKind.i64.wrap (8 * (m0.length : Int))))), (m0.take ((if (m0.length : Int) < IntKind.i64.wrap (Int.tdiv (if 100000 < (if 0 > n1 then 0 else n1) then 100000 else (if 0 > n1 then 0 else n1)) 8) then (m0.length : Int) else IntKind.i64.wrap (Int.tdiv (if 100000 < (if 0 > n1 then 0 else n1) then 100000 else (if 0 > n1 then 0 else n1)) 8))).toNat).map fun b => (b.toNat : Int), (((m0.take ((if (m0.length : Int) < IntKind.i64.wrap (Int.tdiv (if 100000 < (if 0 > n1 then 0 else n1) then 100000 else (if 0 > n1 then 0 else n1)) 8) then (m0.length : Int) else IntKind.i64.wrap (Int.tdiv (if 100000 < (if 0 > n1 then 0 else n1) then 100000 else (if 0 > n1 then 0 else n1)) 8))).toNat).map fun b => (b.toNat : Int)).length : Int), 0))).bind fun (m0, n1, whole5, c6) =>
      ((
        if decide (whole5 < (m0.length : Int)) = true then
          some (((m0, whole5, c6, IntKind.i64.wrap (n1 - (IntKind.i64.wrap (8 * whole5))), decide (IntKind.i64.wrap (n1 - (IntKind.i64.wrap (8 * whole5))) > 0))))
        else
          some (((m0, whole5, c6, IntKind.i64.wrap (n1 - (IntKind.i64.wrap (8 * whole5))), false)))) : Option (List UInt8 × Int × Int × Int × Bool)).bind fun (m0, whole5, c6, rest9, t49) =>
        if t49 = true then
          if 0 ≤ whole5 ∧ whole5 < (m0.length : Int) then
            if 0 ≤ rest9 then
              (bits_OnesCount8 (bitsOp .and .u8 ((m0.getD whole5.toNat 0).toNat : Int) (IntKind.u8.wrap ((IntKind.u8.wrap (1 * 2 ^ (min rest9.toNat 8))) - 1)))).bind fun r58 =>
                some ((IntKind.i64.wrap (c6 + r58)))
            else none
          else none
        else
          some c6
  else none

def marks_Count.ins : Spec := ⟨61, 0, [], [0, 1], (.cons (.v .str) (.cons (.v I) .nil))⟩
def marks_Count.outs : List Spec := [⟨61, 0, [], [4], (.cons (.v I) .nil)⟩]
noncomputable def marks_Count.c : Callee' := ⟨95, mkFits marks_Count.ins marks_Count.outs, mkFun marks_Count.ins marks_Count.outs marks_Count, mkFun_nat _ _ _⟩
theorem marks_Count.quiet : FunQuiet marks_Count.c.F := mkFun_quiet rfl rfl
noncomputable def marks_Count.ann : Ann :=
  (.seq (.reg []) (.seq (.reg []) (.seq (.reg []) (.seq (.reg []) (.seq (.seq (.reg [.std, .std, .std, .inl (.int .u8)]) (.block (.loop ⟨61, 0, [], [0, 1, 5, 6, 27, 28, 29], (.cons (.v .str) (.cons (.v I) (.cons (.v I) (.cons (.v I) (.cons (.v (.sl (.int .u8))) (.cons (.v I) (.cons (.v I) .nil)))))))⟩ [(.exit 0, ⟨61, 0, [], [0, 1, 5, 6], (.cons (.v .str) (.cons (.v I) (.cons (.v I) (.cons (.v I) .nil))))⟩)]
  (.seq (.reg []) (.seq (.cond .std .std) (.seq (.block (.seq (.reg []) (.reg [.std, .std, .callq [bits_OnesCount8.c]]))) (.reg []))))))) (.seq (.seq (.reg []) (.join [(.norm, ⟨61, 0, [], [0, 5, 6, 9, 49], (.cons (.v .str) (.cons (.v I) (.cons (.v I) (.cons (.v I) (.cons (.v .bool) .nil)))))⟩)]
  (.reg []) (.cond (.drw [.std, .std, .std, .std, .std, .std, .std, .std, .callq [bits_OnesCount8.c]]) .std))) (.seq (.reg []) .std)))))))
noncomputable def marks_Count.code : Code := match Tryz.f95.body with | some c => c | none => .skip
theorem marks_Count.eq : absFn tt 61 marks_Count.ins marks_Count.outs marks_Count.code marks_Count.ann = marks_Count := by
  funext a
  kernel_rfl
theorem marks_Count.ok : marks_Count.ann.ok Tryz.prog 0 61 :=
  ann_ok (by kernel_rfl) (by kernel_rfl) (show ∀ c ∈ ([bits_OnesCount8.c, bits_OnesCount8.c] : List Callee'), c.ok Tryz.prog from cs_cons bits_OnesCount8.sound (cs_cons bits_OnesCount8.sound cs_nil))
    (show ∀ c ∈ ([bits_OnesCount8.c, bits_OnesCount8.c] : List Callee'), FunQuiet c.F from cs_cons bits_OnesCount8.quiet (cs_cons bits_OnesCount8.quiet cs_nil))
theorem marks_Count.sound : marks_Count.c.ok Tryz.prog := by
  refine ⟨?_, Tryz.f95, marks_Count.code, Tryz.func95, rfl, by decide⟩
  have h := fn_sound tt_ok mix_ok (x := marks_Count.ann) (ins := marks_Count.ins) (outs := marks_Count.outs) (N := 61) Tryz.func95 (c := marks_Count.code) rfl rfl (by kernel_rfl) (by kernel_rfl) marks_Count.ok (by decide)
  rw [marks_Count.eq] at h
  exact h

/-! ### wainwright/stock.Free: function 42 -/
noncomputable def stock_Free : Unit → Option (Int × Int) := fun _ =>
  (stock_open ()).bind fun d => match d with
  | .inl r8 =>
    if (r8 != 0) = true then
      some (((0, r8)))
    else none
  | .inr (((r8b, r8_2b, r8_3b, r8_4b), r8_5b)) =>
    if (r8_5b != 0) = true then
      some (((0, r8_5b)))
    else
      (stock_low r8_4b).bind fun r23 =>
        (marks_Count (r23, r8_2b)).bind fun r29 =>
          some (((IntKind.i64.wrap (r8_2b - r29), 0)))

def stock_Free.ins : Spec := ⟨31, 0, [], [0], (.cons (.nilptr) .nil)⟩
def stock_Free.outs : List Spec := [⟨31, 0, [], [2, 3], (.cons (.v I) (.cons (.v I) .nil))⟩]
noncomputable def stock_Free.c : Callee' := ⟨42, mkFits stock_Free.ins stock_Free.outs, mkFun stock_Free.ins stock_Free.outs stock_Free, mkFun_nat _ _ _⟩
theorem stock_Free.quiet : FunQuiet stock_Free.c.F := mkFun_quiet rfl rfl
noncomputable def stock_Free.ann : Ann :=
  (.seq (.reg []) (.seq (.reg [.std, .call [stock_open.c]]) (.seq (.seq (.reg []) (.cond (.seq (.reg []) .std) .std)) (.seq (.drw [.std, .std, .std, .std, .std, .std, .std, .std, .std, .callq [stock_low.c], .std, .std, .std, .std, .std, .callq [marks_Count.c]]) .std))))
noncomputable def stock_Free.code : Code := match Tryz.f42.body with | some c => c | none => .skip
theorem stock_Free.eq : absFn tt 31 stock_Free.ins stock_Free.outs stock_Free.code stock_Free.ann = stock_Free := by
  funext a
  kernel_rfl
theorem stock_Free.ok : stock_Free.ann.ok Tryz.prog 0 31 :=
  ann_ok (by kernel_rfl) (by kernel_rfl) (show ∀ c ∈ ([stock_open.c, stock_low.c, marks_Count.c] : List Callee'), c.ok Tryz.prog from cs_cons stock_open.sound (cs_cons stock_low.sound (cs_cons marks_Count.sound cs_nil)))
    (show ∀ c ∈ ([stock_low.c, marks_Count.c] : List Callee'), FunQuiet c.F from cs_cons stock_low.quiet (cs_cons marks_Count.quiet cs_nil))
theorem stock_Free.sound : stock_Free.c.ok Tryz.prog := by
  refine ⟨?_, Tryz.f42, stock_Free.code, Tryz.func42, rfl, by decide⟩
  have h := fn_sound tt_ok mix_ok (x := stock_Free.ann) (ins := stock_Free.ins) (outs := stock_Free.outs) (N := 31) Tryz.func42 (c := stock_Free.code) rfl rfl (by kernel_rfl) (by kernel_rfl) stock_Free.ok (by decide)
  rw [stock_Free.eq] at h
  exact h

/-! ### wainwright/marks.Run: function 140 -/
noncomputable def marks_Run.l1 : (List UInt8 × Int × Int × Int × Int) → Option ((List UInt8 × Int × Int × Int × Int) ⊕ (Unit ⊕ (Int × Bool))) := fun (m0, n2, length3, row10, i11) =>
  if decide (i11 < n2) = true then
    ((
      (marks_Is (m0, i11)).bind fun r30 =>
        if r30 = true then
          some (((m0, n2, length3, 0, i11)))
        else
          some (((m0, n2, length3, IntKind.i64.wrap (row10 + 1), i11)))) : Option (List UInt8 × Int × Int × Int × Int)).bind fun (m0, n2, length3, row10, i11) =>
      if (row10 == length3) = true then
        some (.inr (.inr (((IntKind.i64.wrap ((IntKind.i64.wrap (i11 + 1)) - length3), true)))))
      else
        some (.inl ((m0, n2, length3, row10, IntKind.i64.wrap (i11 + 1))))
  else
    some (.inr (.inl ()))

noncomputable def marks_Run : (List UInt8 × Int × Int × Int) → Option (Int × Bool) := fun (m0, from1, n2, length3) =>
  if decide (length3 < 1) = true then
    some (((0, false)))
  else
    (loopO marks_Run.l1 ((m0, (if IntKind.i64.wrap (8 * (m0.length : Int)) < n2 then IntKind.i64.wrap (8 * (m0.length : Int)) else n2), length3, 0, (if 0 > from1 then 0 else from1)))).bind fun d => match d with
    | .inl _ =>
      some (((0, false)))
    | .inr ((t8, t9)) =>
      some (((t8, t9)))

def marks_Run.ins : Spec := ⟨38, 0, [], [0, 1, 2, 3], (.cons (.v .str) (.cons (.v I) (.cons (.v I) (.cons (.v I) .nil))))⟩
def marks_Run.outs : List Spec := [⟨38, 0, [], [8, 9], (.cons (.v I) (.cons (.v .bool) .nil))⟩]
noncomputable def marks_Run.c : Callee' := ⟨140, mkFits marks_Run.ins marks_Run.outs, mkFun marks_Run.ins marks_Run.outs marks_Run, mkFun_nat _ _ _⟩
theorem marks_Run.quiet : FunQuiet marks_Run.c.F := mkFun_quiet rfl rfl
noncomputable def marks_Run.ann : Ann :=
  (.seq (.reg []) (.seq (.seq (.reg []) (.cond (.seq (.reg []) .std) .std)) (.seq (.reg []) (.seq (.reg []) (.seq (.seq (.reg []) (.block (.loop ⟨38, 0, [], [0, 2, 3, 10, 11], (.cons (.v .str) (.cons (.v I) (.cons (.v I) (.cons (.v I) (.cons (.v I) .nil)))))⟩ [(.exit 0, ⟨38, 0, [], [], .nil⟩), (.ret, ⟨38, 0, [], [8, 9], (.cons (.v I) (.cons (.v .bool) .nil))⟩)]
  (.seq (.seq (.reg []) (.cond .std .std)) (.seq (.block (.seq (.reg []) (.join [(.norm, ⟨38, 0, [], [0, 2, 3, 10, 11], (.cons (.v .str) (.cons (.v I) (.cons (.v I) (.cons (.v I) (.cons (.v I) .nil)))))⟩)]
  (.seq (.reg [.std, .std, .callq [marks_Is.c]]) (.cond (.reg []) .std)) (.seq (.reg []) (.cond (.seq (.reg []) .std) .std))))) (.reg [])))))) (.seq (.reg []) .std))))))
noncomputable def marks_Run.code : Code := match Tryz.f140.body with | some c => c | none => .skip
theorem marks_Run.eq : absFn tt 38 marks_Run.ins marks_Run.outs marks_Run.code marks_Run.ann = marks_Run := by
  funext a
  kernel_rfl
theorem marks_Run.ok : marks_Run.ann.ok Tryz.prog 0 38 :=
  ann_ok (by kernel_rfl) (by kernel_rfl) (show ∀ c ∈ ([marks_Is.c] : List Callee'), c.ok Tryz.prog from cs_cons marks_Is.sound cs_nil)
    (show ∀ c ∈ ([marks_Is.c] : List Callee'), FunQuiet c.F from cs_cons marks_Is.quiet cs_nil)
theorem marks_Run.sound : marks_Run.c.ok Tryz.prog := by
  refine ⟨?_, Tryz.f140, marks_Run.code, Tryz.func140, rfl, by decide⟩
  have h := fn_sound tt_ok mix_ok (x := marks_Run.ann) (ins := marks_Run.ins) (outs := marks_Run.outs) (N := 38) Tryz.func140 (c := marks_Run.code) rfl rfl (by kernel_rfl) (by kernel_rfl) marks_Run.ok (by decide)
  rw [marks_Run.eq] at h
  exact h

/-! ### wainwright/marks.Longest: function 141 -/
noncomputable def marks_Longest.l1 : (List UInt8 × Int × Int × Int × Int × Int) → Option ((List UInt8 × Int × Int × Int × Int × Int) ⊕ (Int × Int)) := fun (m0, at6, best7, row8, t15, t16) =>
  if decide (t16 < t15) = true then
    ((
      (marks_Is (m0, t16)).bind fun r23 =>
        if r23 = true then
          some (((m0, at6, best7, 0, t16, t15, t16)))
        else
          some (((m0, at6, best7, IntKind.i64.wrap (row8 + 1), t16, t15, t16)))) : Option (List UInt8 × Int × Int × Int × Int × Int × Int)).bind fun (m0, at6, best7, row8, i9, t15, t16) =>
      if decide (row8 > best7) = true then
        some (.inl ((m0, IntKind.i64.wrap ((IntKind.i64.wrap (i9 + 1)) - row8), row8, row8, t15, IntKind.i64.wrap (t16 + 1))))
      else
        some (.inl ((m0, at6, best7, row8, t15, IntKind.i64.wrap (t16 + 1))))
  else
    some (.inr (((at6, best7))))

noncomputable def marks_Longest : (List UInt8 × Int) → Option (Int × Int) := fun (m0, n1) =>
  (loopO marks_Longest.l1 ((m0, 0, 0, 0, (if IntKind.i64.wrap (8 * (m0.length : Int)) < (if 0 > n1 then 0 else n1) then IntKind.i64.wrap (8 * (m0.length : Int)) else (if 0 > n1 then 0 else n1)), 0))).bind fun (at6, best7) =>
    some (((at6, best7)))

def marks_Longest.ins : Spec := ⟨35, 0, [], [0, 1], (.cons (.v .str) (.cons (.v I) .nil))⟩
def marks_Longest.outs : List Spec := [⟨35, 0, [], [4, 5], (.cons (.v I) (.cons (.v I) .nil))⟩]
noncomputable def marks_Longest.c : Callee' := ⟨141, mkFits marks_Longest.ins marks_Longest.outs, mkFun marks_Longest.ins marks_Longest.outs marks_Longest, mkFun_nat _ _ _⟩
theorem marks_Longest.quiet : FunQuiet marks_Longest.c.F := mkFun_quiet rfl rfl
noncomputable def marks_Longest.ann : Ann :=
  (.seq (.reg []) (.seq (.reg []) (.seq (.seq (.reg []) (.block (.loop ⟨35, 0, [], [0, 6, 7, 8, 15, 16], (.cons (.v .str) (.cons (.v I) (.cons (.v I) (.cons (.v I) (.cons (.v I) (.cons (.v I) .nil))))))⟩ [(.exit 0, ⟨35, 0, [], [6, 7], (.cons (.v I) (.cons (.v I) .nil))⟩)]
  (.seq (.reg []) (.seq (.cond .std .std) (.seq (.block (.seq (.reg []) (.seq (.reg []) (.join [(.norm, ⟨35, 0, [], [0, 6, 7, 8, 9, 15, 16], (.cons (.v .str) (.cons (.v I) (.cons (.v I) (.cons (.v I) (.cons (.v I) (.cons (.v I) (.cons (.v I) .nil)))))))⟩)]
  (.seq (.reg [.std, .std, .callq [marks_Is.c]]) (.cond (.reg []) .std)) (.seq (.reg []) (.cond (.reg []) .std)))))) (.reg []))))))) (.seq (.reg []) .std))))
noncomputable def marks_Longest.code : Code := match Tryz.f141.body with | some c => c | none => .skip
theorem marks_Longest.eq : absFn tt 35 marks_Longest.ins marks_Longest.outs marks_Longest.code marks_Longest.ann = marks_Longest := by
  funext a
  kernel_rfl
theorem marks_Longest.ok : marks_Longest.ann.ok Tryz.prog 0 35 :=
  ann_ok (by kernel_rfl) (by kernel_rfl) (show ∀ c ∈ ([marks_Is.c] : List Callee'), c.ok Tryz.prog from cs_cons marks_Is.sound cs_nil)
    (show ∀ c ∈ ([marks_Is.c] : List Callee'), FunQuiet c.F from cs_cons marks_Is.quiet cs_nil)
theorem marks_Longest.sound : marks_Longest.c.ok Tryz.prog := by
  refine ⟨?_, Tryz.f141, marks_Longest.code, Tryz.func141, rfl, by decide⟩
  have h := fn_sound tt_ok mix_ok (x := marks_Longest.ann) (ins := marks_Longest.ins) (outs := marks_Longest.outs) (N := 35) Tryz.func141 (c := marks_Longest.code) rfl rfl (by kernel_rfl) (by kernel_rfl) marks_Longest.ok (by decide)
  rw [marks_Longest.eq] at h
  exact h

/-! ### (*wainwright/stock.store).row: function 90 -/
noncomputable def stock_store_row : ((Int × Int × Int × List UInt8) × Int) → Option ((Int × Int × Int × List UInt8) × Int × Int) := fun ((s0b, s0c, s0d, s0e), n1) =>
  (marks_Run (s0e, 51, s0c, n1)).bind fun (r19, r19_2) =>
    if r19_2 = true then
      some ((((s0b, s0c, s0d, s0e), r19, n1)))
    else
      (stock_low s0e).bind fun r29 =>
        (marks_Longest (r29, s0c)).bind fun (r35, r35_2) =>
          some ((((s0b, s0c, s0d, s0e), r35, r35_2)))

def stock_store_row.ins : Spec := ⟨38, 0, [.box (.cons (.nilptr) (.cons (.v I) (.cons (.v I) (.cons (.v I) (.cons (.v .str) .nil)))))], [0, 1], (.cons (.ref 0) (.cons (.v I) .nil))⟩
def stock_store_row.outs : List Spec := [⟨38, 1, [.box (.cons (.nilptr) (.cons (.v I) (.cons (.v I) (.cons (.v I) (.cons (.v .str) .nil)))))], [4, 5], (.cons (.v I) (.cons (.v I) .nil))⟩]
noncomputable def stock_store_row.c : Callee' := ⟨90, mkFits stock_store_row.ins stock_store_row.outs, mkFun stock_store_row.ins stock_store_row.outs stock_store_row, mkFun_nat _ _ _⟩
noncomputable def stock_store_row.ann : Ann :=
  (.seq (.reg []) (.seq (.seq (.drw [.std, .std, .std, .std, .std, .std, .std, .std, .std, .std, .callq [marks_Run.c]]) (.seq (.reg []) (.cond (.seq (.reg []) .std) .std))) (.seq (.drw [.std, .std, .std, .std, .callq [stock_low.c], .std, .std, .std, .std, .std, .callq [marks_Longest.c]]) .std)))
noncomputable def stock_store_row.code : Code := match Tryz.f90.body with | some c => c | none => .skip
theorem stock_store_row.eq : absFn tt 38 stock_store_row.ins stock_store_row.outs stock_store_row.code stock_store_row.ann = stock_store_row := by
  funext a
  kernel_rfl
theorem stock_store_row.ok : stock_store_row.ann.ok Tryz.prog 1 38 :=
  ann_ok (by kernel_rfl) (by kernel_rfl) (show ∀ c ∈ ([marks_Run.c, stock_low.c, marks_Longest.c] : List Callee'), c.ok Tryz.prog from cs_cons marks_Run.sound (cs_cons stock_low.sound (cs_cons marks_Longest.sound cs_nil)))
    (show ∀ c ∈ ([marks_Run.c, stock_low.c, marks_Longest.c] : List Callee'), FunQuiet c.F from cs_cons marks_Run.quiet (cs_cons stock_low.quiet (cs_cons marks_Longest.quiet cs_nil)))
theorem stock_store_row.sound : stock_store_row.c.ok Tryz.prog := by
  refine ⟨?_, Tryz.f90, stock_store_row.code, Tryz.func90, rfl, by decide⟩
  have h := fn_sound tt_ok mix_ok (x := stock_store_row.ann) (ins := stock_store_row.ins) (outs := stock_store_row.outs) (N := 38) Tryz.func90 (c := stock_store_row.code) rfl rfl (by kernel_rfl) (by kernel_rfl) stock_store_row.ok (by decide)
  rw [stock_store_row.eq] at h
  exact h

/-! ### (*wainwright/stock.store).use: function 91 -/
noncomputable def stock_store_use.l1 : ((Int × Int × Int × List UInt8) × Int × Int × Int) → Option (((Int × Int × Int × List UInt8) × Int × Int × Int) ⊕ ((Int × Int × Int × List UInt8) ⊕ ((Int × Int × Int × List UInt8) × Int))) := fun ((s0b, s0c, s0d, s0e), at1, n2, i7) =>
  if decide (i7 < IntKind.i64.wrap (at1 + n2)) = true then
    (marks_Set (s0e, i7, true)).bind fun r23 =>
      (deal_Deal_Write (i7, [])).bind fun r31 =>
        if (r31 != 0) = true then
          some (.inr (.inr ((((s0b, s0c, s0d, r23), r31)))))
        else
          some (.inl (((s0b, s0c, s0d, r23), at1, n2, IntKind.i64.wrap (i7 + 1))))
  else
    some (.inr (.inl ((s0b, s0c, s0d, s0e))))

noncomputable def stock_store_use : ((Int × Int × Int × List UInt8) × Int × Int) → Option ((Int × Int × Int × List UInt8) × Int) := fun ((s0b, s0c, s0d, s0e), at1, n2) =>
  (loopO stock_store_use.l1 (((s0b, s0c, s0d, s0e), at1, n2, at1))).bind fun d => match d with
  | .inl (s0b, s0c, s0d, s0e) =>
    (deal_Deal_Write (42, s0e)).bind fun r43 =>
      some ((((s0b, s0c, s0d, s0e), r43)))
  | .inr (((o0b, o0c, o0d, o0e), t6)) =>
    some ((((o0b, o0c, o0d, o0e), t6)))

def stock_store_use.ins : Spec := ⟨44, 0, [.box (.cons (.nilptr) (.cons (.v I) (.cons (.v I) (.cons (.v I) (.cons (.v .str) .nil)))))], [0, 1, 2], (.cons (.ref 0) (.cons (.v I) (.cons (.v I) .nil)))⟩
def stock_store_use.outs : List Spec := [⟨44, 1, [.box (.cons (.nilptr) (.cons (.v I) (.cons (.v I) (.cons (.v I) (.cons (.v .str) .nil)))))], [6], (.cons (.v I) .nil)⟩]
noncomputable def stock_store_use.c : Callee' := ⟨91, mkFits stock_store_use.ins stock_store_use.outs, mkFun stock_store_use.ins stock_store_use.outs stock_store_use, mkFun_nat _ _ _⟩
noncomputable def stock_store_use.ann : Ann :=
  (.seq (.reg []) (.seq (.seq (.reg []) (.block (.loop ⟨44, 1, [.box (.cons (.nilptr) (.cons (.v I) (.cons (.v I) (.cons (.v I) (.cons (.v .str) .nil)))))], [0, 1, 2, 7], (.cons (.ref 0) (.cons (.v I) (.cons (.v I) (.cons (.v I) .nil))))⟩ [(.exit 0, ⟨44, 1, [.box (.cons (.nilptr) (.cons (.v I) (.cons (.v I) (.cons (.v I) (.cons (.v .str) .nil)))))], [0], (.cons (.ref 0) .nil)⟩), (.ret, ⟨44, 1, [.box (.cons (.nilptr) (.cons (.v I) (.cons (.v I) (.cons (.v I) (.cons (.v .str) .nil)))))], [6], (.cons (.v I) .nil)⟩)]
  (.seq (.seq (.reg []) (.cond .std .std)) (.seq (.block (.seq (.reg [.std, .std, .std, .std, .std, .std, .callq [marks_Set.c]]) (.seq (.reg [.std, .std, .std, .std, .std, .callq [deal_Deal_Write.c]]) (.seq (.reg []) (.cond (.seq (.reg []) .std) .std))))) (.reg [])))))) (.seq (.drw [.std, .std, .std, .std, .std, .std, .std, .std, .callq [deal_Deal_Write.c]]) .std)))
noncomputable def stock_store_use.code : Code := match Tryz.f91.body with | some c => c | none => .skip
theorem stock_store_use.eq : absFn tt 44 stock_store_use.ins stock_store_use.outs stock_store_use.code stock_store_use.ann = stock_store_use := by
  funext a
  kernel_rfl
theorem stock_store_use.ok : stock_store_use.ann.ok Tryz.prog 1 44 :=
  ann_ok (by kernel_rfl) (by kernel_rfl) (show ∀ c ∈ ([marks_Set.c, deal_Deal_Write.c, deal_Deal_Write.c] : List Callee'), c.ok Tryz.prog from cs_cons marks_Set.sound (cs_cons deal_Deal_Write.sound (cs_cons deal_Deal_Write.sound cs_nil)))
    (show ∀ c ∈ ([marks_Set.c, deal_Deal_Write.c, deal_Deal_Write.c] : List Callee'), FunQuiet c.F from cs_cons marks_Set.quiet (cs_cons deal_Deal_Write.quiet (cs_cons deal_Deal_Write.quiet cs_nil)))
theorem stock_store_use.sound : stock_store_use.c.ok Tryz.prog := by
  refine ⟨?_, Tryz.f91, stock_store_use.code, Tryz.func91, rfl, by decide⟩
  have h := fn_sound tt_ok mix_ok (x := stock_store_use.ann) (ins := stock_store_use.ins) (outs := stock_store_use.outs) (N := 44) Tryz.func91 (c := stock_store_use.code) rfl rfl (by kernel_rfl) (by kernel_rfl) stock_store_use.ok (by decide)
  rw [stock_store_use.eq] at h
  exact h

/-! ### wainwright/stock.Run: function 40 -/
noncomputable def stock_Run : Int → Option (Int × Int × Int) := fun n1 =>
  (stock_open ()).bind fun d => match d with
  | .inl r12 =>
    if (r12 != 0) = true then
      some (((0, 0, r12)))
    else
      if decide (n1 < 1) = true then
        some (((0, 0, 1)))
      else none
  | .inr (((r12b, r12_2b, r12_3b, r12_4b), r12_5b)) =>
    if (r12_5b != 0) = true then
      some (((0, 0, r12_5b)))
    else
      if decide (n1 < 1) = true then
        some (((0, 0, 1)))
      else
        (stock_store_row ((r12b, r12_2b, r12_3b, r12_4b), n1)).bind fun ((r25, r25_2, r25_3, r25_4), r25_5, r25_6) =>
          if (r25_6 == 0) = true then
            some (((0, 0, 10)))
          else
            (stock_store_use ((r25, r25_2, r25_3, r25_4), r25_5, r25_6)).bind fun ((r35, r35_2, r35_3, r35_4), r35_5) =>
              some (((r25_5, r25_6, r35_5)))

def stock_Run.ins : Spec := ⟨36, 0, [], [0, 1], (.cons (.nilptr) (.cons (.v I) .nil))⟩
def stock_Run.outs : List Spec := [⟨36, 0, [], [4, 5, 6], (.cons (.v I) (.cons (.v I) (.cons (.v I) .nil)))⟩]
noncomputable def stock_Run.c : Callee' := ⟨40, mkFits stock_Run.ins stock_Run.outs, mkFun stock_Run.ins stock_Run.outs stock_Run, mkFun_nat _ _ _⟩
theorem stock_Run.quiet : FunQuiet stock_Run.c.F := mkFun_quiet rfl rfl
noncomputable def stock_Run.ann : Ann :=
  (.seq (.reg []) (.seq (.reg [.std, .call [stock_open.c]]) (.seq (.block (.seq (.reg []) (.cond (.seq (.reg []) .std) (.seq (.reg []) (.cond (.seq (.reg []) .std) .std))))) (.seq (.reg [.std, .std, .call [stock_store_row.c]]) (.seq (.seq (.reg []) (.cond (.seq (.reg []) .std) .std)) (.seq (.reg [.std, .std, .std, .std, .std, .call [stock_store_use.c]]) .std))))))
noncomputable def stock_Run.code : Code := match Tryz.f40.body with | some c => c | none => .skip
theorem stock_Run.eq : absFn tt 36 stock_Run.ins stock_Run.outs stock_Run.code stock_Run.ann = stock_Run := by
  funext a
  kernel_rfl
theorem stock_Run.ok : stock_Run.ann.ok Tryz.prog 0 36 :=
  ann_ok (by kernel_rfl) (by kernel_rfl) (show ∀ c ∈ ([stock_open.c, stock_store_row.c, stock_store_use.c] : List Callee'), c.ok Tryz.prog from cs_cons stock_open.sound (cs_cons stock_store_row.sound (cs_cons stock_store_use.sound cs_nil)))
    (show ∀ c ∈ ([] : List Callee'), FunQuiet c.F from cs_nil)
theorem stock_Run.sound : stock_Run.c.ok Tryz.prog := by
  refine ⟨?_, Tryz.f40, stock_Run.code, Tryz.func40, rfl, by decide⟩
  have h := fn_sound tt_ok mix_ok (x := stock_Run.ann) (ins := stock_Run.ins) (outs := stock_Run.outs) (N := 36) Tryz.func40 (c := stock_Run.code) rfl rfl (by kernel_rfl) (by kernel_rfl) stock_Run.ok (by decide)
  rw [stock_Run.eq] at h
  exact h

/-! ### wainwright/stock.Take: function 39 -/
noncomputable def stock_Take : Unit → Option (Int × Int) := fun _ =>
  (stock_Run 1).bind fun (r9, r9_2, r9_3) =>
    some (((r9, r9_3)))

def stock_Take.ins : Spec := ⟨15, 0, [], [0], (.cons (.nilptr) .nil)⟩
def stock_Take.outs : List Spec := [⟨15, 0, [], [2, 3], (.cons (.v I) (.cons (.v I) .nil))⟩]
noncomputable def stock_Take.c : Callee' := ⟨39, mkFits stock_Take.ins stock_Take.outs, mkFun stock_Take.ins stock_Take.outs stock_Take, mkFun_nat _ _ _⟩
theorem stock_Take.quiet : FunQuiet stock_Take.c.F := mkFun_quiet rfl rfl
noncomputable def stock_Take.ann : Ann :=
  (.seq (.reg []) (.seq (.reg [.std, .callq [stock_Run.c]]) (.seq (.reg []) .std)))
noncomputable def stock_Take.code : Code := match Tryz.f39.body with | some c => c | none => .skip
theorem stock_Take.eq : absFn tt 15 stock_Take.ins stock_Take.outs stock_Take.code stock_Take.ann = stock_Take := by
  funext a
  kernel_rfl
theorem stock_Take.ok : stock_Take.ann.ok Tryz.prog 0 15 :=
  ann_ok (by kernel_rfl) (by kernel_rfl) (show ∀ c ∈ ([stock_Run.c] : List Callee'), c.ok Tryz.prog from cs_cons stock_Run.sound cs_nil)
    (show ∀ c ∈ ([stock_Run.c] : List Callee'), FunQuiet c.F from cs_cons stock_Run.quiet cs_nil)
theorem stock_Take.sound : stock_Take.c.ok Tryz.prog := by
  refine ⟨?_, Tryz.f39, stock_Take.code, Tryz.func39, rfl, by decide⟩
  have h := fn_sound tt_ok mix_ok (x := stock_Take.ann) (ins := stock_Take.ins) (outs := stock_Take.outs) (N := 15) Tryz.func39 (c := stock_Take.code) rfl rfl (by kernel_rfl) (by kernel_rfl) stock_Take.ok (by decide)
  rw [stock_Take.eq] at h
  exact h

/-! ### wainwright/crown.Owned: function 92 -/
noncomputable def crown_Owned : ((Int × Int × Int) × Int) → Option (Bool) := fun (c0, block1) =>
  (crown_Right (c0.1, c0.2.1, c0.2.2)).bind fun r6 =>
    if r6 = true then
      if decide (block1 ≥ 51) = true then
        some ((decide (block1 < c0.2.1)))
      else
        some false
    else
      some false

def crown_Owned.ins : Spec := ⟨17, 0, [], [0, 1], (.cons (.v (.st (.pair I (.pair I I)))) (.cons (.v I) .nil))⟩
def crown_Owned.outs : List Spec := [⟨17, 0, [], [4], (.cons (.v .bool) .nil)⟩]
noncomputable def crown_Owned.c : Callee' := ⟨92, mkFits crown_Owned.ins crown_Owned.outs, mkFun crown_Owned.ins crown_Owned.outs crown_Owned, mkFun_nat _ _ _⟩
theorem crown_Owned.quiet : FunQuiet crown_Owned.c.F := mkFun_quiet rfl rfl
noncomputable def crown_Owned.ann : Ann :=
  (.seq (.reg []) (.seq (.reg [.std, .callq [crown_Right.c]]) .std))
noncomputable def crown_Owned.code : Code := match Tryz.f92.body with | some c => c | none => .skip
theorem crown_Owned.eq : absFn tt 17 crown_Owned.ins crown_Owned.outs crown_Owned.code crown_Owned.ann = crown_Owned := by
  funext a
  kernel_rfl
theorem crown_Owned.ok : crown_Owned.ann.ok Tryz.prog 0 17 :=
  ann_ok (by kernel_rfl) (by kernel_rfl) (show ∀ c ∈ ([crown_Right.c] : List Callee'), c.ok Tryz.prog from cs_cons crown_Right.sound cs_nil)
    (show ∀ c ∈ ([crown_Right.c] : List Callee'), FunQuiet c.F from cs_cons crown_Right.quiet cs_nil)
theorem crown_Owned.sound : crown_Owned.c.ok Tryz.prog := by
  refine ⟨?_, Tryz.f92, crown_Owned.code, Tryz.func92, rfl, by decide⟩
  have h := fn_sound tt_ok mix_ok (x := crown_Owned.ann) (ins := crown_Owned.ins) (outs := crown_Owned.outs) (N := 17) Tryz.func92 (c := crown_Owned.code) rfl rfl (by kernel_rfl) (by kernel_rfl) crown_Owned.ok (by decide)
  rw [crown_Owned.eq] at h
  exact h

/-! ### wainwright/stock.Drop: function 41 -/
noncomputable def stock_Drop : Int → Option (Int) := fun block1 =>
  (stock_open ()).bind fun d => match d with
  | .inl r9 =>
    if (r9 != 0) = true then
      some r9
    else none
  | .inr (((r9b, r9_2b, r9_3b, r9_4b), r9_5b)) =>
    if (r9_5b != 0) = true then
      some r9_5b
    else
      (crown_Owned ((r9b, r9_2b, r9_3b), block1)).bind fun r20 =>
        if (!r20) = false then
          (marks_Is (r9_4b, block1)).bind fun r28 =>
            if (!r28) = true then
              some 15
            else
              (marks_Set (r9_4b, block1, false)).bind fun r37 =>
                (deal_Deal_Write (42, r37)).bind fun r38 =>
                  some r38
        else
          some 15

def stock_Drop.ins : Spec := ⟨39, 0, [], [0, 1], (.cons (.nilptr) (.cons (.v I) .nil))⟩
def stock_Drop.outs : List Spec := [⟨39, 0, [], [4], (.cons (.v I) .nil)⟩]
noncomputable def stock_Drop.c : Callee' := ⟨41, mkFits stock_Drop.ins stock_Drop.outs, mkFun stock_Drop.ins stock_Drop.outs stock_Drop, mkFun_nat _ _ _⟩
theorem stock_Drop.quiet : FunQuiet stock_Drop.c.F := mkFun_quiet rfl rfl
noncomputable def stock_Drop.ann : Ann :=
  (.seq (.reg []) (.seq (.reg [.std, .call [stock_open.c]]) (.seq (.seq (.reg []) (.cond (.seq (.reg []) .std) .std)) (.seq (.seq (.reg [.std, .std, .std, .std, .std, .callq [crown_Owned.c], .std, .std, .std, .std, .std, .std, .std, .callq [marks_Is.c]]) (.cond (.seq (.reg []) .std) .std)) (.seq (.reg [.std, .std, .std, .std, .std, .std, .callq [marks_Set.c], .callq [deal_Deal_Write.c]]) .std)))))
noncomputable def stock_Drop.code : Code := match Tryz.f41.body with | some c => c | none => .skip
theorem stock_Drop.eq : absFn tt 39 stock_Drop.ins stock_Drop.outs stock_Drop.code stock_Drop.ann = stock_Drop := by
  funext a
  kernel_rfl
theorem stock_Drop.ok : stock_Drop.ann.ok Tryz.prog 0 39 :=
  ann_ok (by kernel_rfl) (by kernel_rfl) (show ∀ c ∈ ([stock_open.c, crown_Owned.c, marks_Is.c, marks_Set.c, deal_Deal_Write.c] : List Callee'), c.ok Tryz.prog from cs_cons stock_open.sound (cs_cons crown_Owned.sound (cs_cons marks_Is.sound (cs_cons marks_Set.sound (cs_cons deal_Deal_Write.sound cs_nil)))))
    (show ∀ c ∈ ([crown_Owned.c, marks_Is.c, marks_Set.c, deal_Deal_Write.c] : List Callee'), FunQuiet c.F from cs_cons crown_Owned.quiet (cs_cons marks_Is.quiet (cs_cons marks_Set.quiet (cs_cons deal_Deal_Write.quiet cs_nil))))
theorem stock_Drop.sound : stock_Drop.c.ok Tryz.prog := by
  refine ⟨?_, Tryz.f41, stock_Drop.code, Tryz.func41, rfl, by decide⟩
  have h := fn_sound tt_ok mix_ok (x := stock_Drop.ann) (ins := stock_Drop.ins) (outs := stock_Drop.outs) (N := 39) Tryz.func41 (c := stock_Drop.code) rfl rfl (by kernel_rfl) (by kernel_rfl) stock_Drop.ok (by decide)
  rw [stock_Drop.eq] at h
  exact h

/-! ### (*wainwright/log.Log).Read: function 17 -/
noncomputable def log_Log_Read : (((List (List UInt8) × (List (Int × List UInt8)) × Int × Int) × Bool × Int) × Int) → Option (List UInt8) := fun (l0, i1) =>
  (slab_Slab_Read (l0.1, i1)).bind fun r12 =>
    some r12

def log_Log_Read.ins : Spec := ⟨13, 0, [], [0, 1], (.cons (.v (.ptr (.pair (.ptr (.pair (.sl .str) (.pair (.map I .str) (.pair I I)))) (.pair .bool I)))) (.cons (.v I) .nil))⟩
def log_Log_Read.outs : List Spec := [⟨13, 0, [], [4], (.cons (.v .str) .nil)⟩]
noncomputable def log_Log_Read.c : Callee' := ⟨17, mkFits log_Log_Read.ins log_Log_Read.outs, mkFun log_Log_Read.ins log_Log_Read.outs log_Log_Read, mkFun_nat _ _ _⟩
theorem log_Log_Read.quiet : FunQuiet log_Log_Read.c.F := mkFun_quiet rfl rfl
noncomputable def log_Log_Read.ann : Ann :=
  (.seq (.reg []) (.seq (.seq (.reg [.std, .obj .bool]) (.cond (.seq (.reg []) .std) .std)) (.seq (.reg [.std, .std, .std, .std, .std, .callq [slab_Slab_Read.c]]) .std)))
noncomputable def log_Log_Read.code : Code := match Tryz.f17.body with | some c => c | none => .skip
theorem log_Log_Read.eq : absFn tt 13 log_Log_Read.ins log_Log_Read.outs log_Log_Read.code log_Log_Read.ann = log_Log_Read := by
  funext a
  kernel_rfl
theorem log_Log_Read.ok : log_Log_Read.ann.ok Tryz.prog 0 13 :=
  ann_ok (by kernel_rfl) (by kernel_rfl) (show ∀ c ∈ ([slab_Slab_Read.c] : List Callee'), c.ok Tryz.prog from cs_cons slab_Slab_Read.sound cs_nil)
    (show ∀ c ∈ ([slab_Slab_Read.c] : List Callee'), FunQuiet c.F from cs_cons slab_Slab_Read.quiet cs_nil)
theorem log_Log_Read.sound : log_Log_Read.c.ok Tryz.prog := by
  refine ⟨?_, Tryz.f17, log_Log_Read.code, Tryz.func17, rfl, by decide⟩
  have h := fn_sound tt_ok mix_ok (x := log_Log_Read.ann) (ins := log_Log_Read.ins) (outs := log_Log_Read.outs) (N := 13) Tryz.func17 (c := log_Log_Read.code) rfl rfl (by kernel_rfl) (by kernel_rfl) log_Log_Read.ok (by decide)
  rw [log_Log_Read.eq] at h
  exact h

/-! ### (*wainwright/deal.written).get: function 104 -/
noncomputable def deal_written_get : ((((List (List UInt8) × (List (Int × List UInt8)) × Int × Int) × Bool × Int) × List (Int × List UInt8)) × Int) → Option (List UInt8) := fun (w0, i1) =>
  if (mget (K := I) (V := .str) w0.2 i1).isSome = true then
    some ((((mget (K := I) (V := .str) w0.2 i1).getD [])))
  else
    (log_Log_Read (w0.1, i1)).bind fun r23 =>
      some r23

def deal_written_get.ins : Spec := ⟨24, 0, [], [0, 1], (.cons (.v (.ptr (.pair (.ptr (.pair (.ptr (.pair (.sl .str) (.pair (.map I .str) (.pair I I)))) (.pair .bool I))) (.map I .str)))) (.cons (.v I) .nil))⟩
def deal_written_get.outs : List Spec := [⟨24, 0, [], [4], (.cons (.v .str) .nil)⟩]
noncomputable def deal_written_get.c : Callee' := ⟨104, mkFits deal_written_get.ins deal_written_get.outs, mkFun deal_written_get.ins deal_written_get.outs deal_written_get, mkFun_nat _ _ _⟩
theorem deal_written_get.quiet : FunQuiet deal_written_get.c.F := mkFun_quiet rfl rfl
noncomputable def deal_written_get.ann : Ann :=
  (.seq (.reg []) (.seq (.seq (.reg []) (.seq (.reg []) (.cond (.seq (.reg []) .std) .std))) (.seq (.reg [.std, .std, .std, .std, .std, .callq [log_Log_Read.c]]) .std)))
noncomputable def deal_written_get.code : Code := match Tryz.f104.body with | some c => c | none => .skip
theorem deal_written_get.eq : absFn tt 24 deal_written_get.ins deal_written_get.outs deal_written_get.code deal_written_get.ann = deal_written_get := by
  funext a
  kernel_rfl
theorem deal_written_get.ok : deal_written_get.ann.ok Tryz.prog 0 24 :=
  ann_ok (by kernel_rfl) (by kernel_rfl) (show ∀ c ∈ ([log_Log_Read.c] : List Callee'), c.ok Tryz.prog from cs_cons log_Log_Read.sound cs_nil)
    (show ∀ c ∈ ([log_Log_Read.c] : List Callee'), FunQuiet c.F from cs_cons log_Log_Read.quiet cs_nil)
theorem deal_written_get.sound : deal_written_get.c.ok Tryz.prog := by
  refine ⟨?_, Tryz.f104, deal_written_get.code, Tryz.func104, rfl, by decide⟩
  have h := fn_sound tt_ok mix_ok (x := deal_written_get.ann) (ins := deal_written_get.ins) (outs := deal_written_get.outs) (N := 24) Tryz.func104 (c := deal_written_get.code) rfl rfl (by kernel_rfl) (by kernel_rfl) deal_written_get.ok (by decide)
  rw [deal_written_get.eq] at h
  exact h

/-! ### internal/stringslite.HasPrefix: function 214 -/
noncomputable def stringslite_HasPrefix : (List UInt8 × List UInt8) → Option (Bool) := fun (s0, prefix1) =>
  if decide ((s0.length : Int) ≥ (prefix1.length : Int)) = true then
    if 0 ≤ (prefix1.length : Int) ∧ (prefix1.length : Int) ≤ (s0.length : Int) then
      some ((((s0.take ((prefix1.length : Int)).toNat) == prefix1)))
    else none
  else
    some false

def stringslite_HasPrefix.ins : Spec := ⟨18, 0, [], [0, 1], (.cons (.v .str) (.cons (.v .str) .nil))⟩
def stringslite_HasPrefix.outs : List Spec := [⟨18, 0, [], [4], (.cons (.v .bool) .nil)⟩]
noncomputable def stringslite_HasPrefix.c : Callee' := ⟨214, mkFits stringslite_HasPrefix.ins stringslite_HasPrefix.outs, mkFun stringslite_HasPrefix.ins stringslite_HasPrefix.outs stringslite_HasPrefix, mkFun_nat _ _ _⟩
theorem stringslite_HasPrefix.quiet : FunQuiet stringslite_HasPrefix.c.F := mkFun_quiet rfl rfl
noncomputable def stringslite_HasPrefix.ann : Ann :=
  (.seq (.reg []) (.seq (.reg []) .std))
noncomputable def stringslite_HasPrefix.code : Code := match Tryz.f214.body with | some c => c | none => .skip
theorem stringslite_HasPrefix.eq : absFn tt 18 stringslite_HasPrefix.ins stringslite_HasPrefix.outs stringslite_HasPrefix.code stringslite_HasPrefix.ann = stringslite_HasPrefix := by
  funext a
  kernel_rfl
theorem stringslite_HasPrefix.ok : stringslite_HasPrefix.ann.ok Tryz.prog 0 18 :=
  ann_ok (by kernel_rfl) (by kernel_rfl) (show ∀ c ∈ ([] : List Callee'), c.ok Tryz.prog from cs_nil)
    (show ∀ c ∈ ([] : List Callee'), FunQuiet c.F from cs_nil)
theorem stringslite_HasPrefix.sound : stringslite_HasPrefix.c.ok Tryz.prog := by
  refine ⟨?_, Tryz.f214, stringslite_HasPrefix.code, Tryz.func214, rfl, by decide⟩
  have h := fn_sound tt_ok mix_ok (x := stringslite_HasPrefix.ann) (ins := stringslite_HasPrefix.ins) (outs := stringslite_HasPrefix.outs) (N := 18) Tryz.func214 (c := stringslite_HasPrefix.code) rfl rfl (by kernel_rfl) (by kernel_rfl) stringslite_HasPrefix.ok (by decide)
  rw [stringslite_HasPrefix.eq] at h
  exact h

/-! ### internal/stringslite.CutPrefix: function 181 -/
noncomputable def stringslite_CutPrefix : (List UInt8 × List UInt8) → Option (List UInt8 × Bool) := fun (s0, prefix1) =>
  (stringslite_HasPrefix (s0, prefix1)).bind fun r8 =>
    if (!r8) = true then
      some (((s0, false)))
    else
      if 0 ≤ (prefix1.length : Int) ∧ (prefix1.length : Int) ≤ (s0.length : Int) then
        some (((s0.drop ((prefix1.length : Int)).toNat, true)))
      else none

def stringslite_CutPrefix.ins : Spec := ⟨15, 0, [], [0, 1], (.cons (.v .str) (.cons (.v .str) .nil))⟩
def stringslite_CutPrefix.outs : List Spec := [⟨15, 0, [], [4, 5], (.cons (.v .str) (.cons (.v .bool) .nil))⟩]
noncomputable def stringslite_CutPrefix.c : Callee' := ⟨181, mkFits stringslite_CutPrefix.ins stringslite_CutPrefix.outs, mkFun stringslite_CutPrefix.ins stringslite_CutPrefix.outs stringslite_CutPrefix, mkFun_nat _ _ _⟩
theorem stringslite_CutPrefix.quiet : FunQuiet stringslite_CutPrefix.c.F := mkFun_quiet rfl rfl
noncomputable def stringslite_CutPrefix.ann : Ann :=
  (.seq (.reg []) (.seq (.seq (.reg [.std, .std, .callq [stringslite_HasPrefix.c]]) (.cond (.seq (.reg []) .std) .std)) (.seq (.reg []) .std)))
noncomputable def stringslite_CutPrefix.code : Code := match Tryz.f181.body with | some c => c | none => .skip
theorem stringslite_CutPrefix.eq : absFn tt 15 stringslite_CutPrefix.ins stringslite_CutPrefix.outs stringslite_CutPrefix.code stringslite_CutPrefix.ann = stringslite_CutPrefix := by
  funext a
  kernel_rfl
theorem stringslite_CutPrefix.ok : stringslite_CutPrefix.ann.ok Tryz.prog 0 15 :=
  ann_ok (by kernel_rfl) (by kernel_rfl) (show ∀ c ∈ ([stringslite_HasPrefix.c] : List Callee'), c.ok Tryz.prog from cs_cons stringslite_HasPrefix.sound cs_nil)
    (show ∀ c ∈ ([stringslite_HasPrefix.c] : List Callee'), FunQuiet c.F from cs_cons stringslite_HasPrefix.quiet cs_nil)
theorem stringslite_CutPrefix.sound : stringslite_CutPrefix.c.ok Tryz.prog := by
  refine ⟨?_, Tryz.f181, stringslite_CutPrefix.code, Tryz.func181, rfl, by decide⟩
  have h := fn_sound tt_ok mix_ok (x := stringslite_CutPrefix.ann) (ins := stringslite_CutPrefix.ins) (outs := stringslite_CutPrefix.outs) (N := 15) Tryz.func181 (c := stringslite_CutPrefix.code) rfl rfl (by kernel_rfl) (by kernel_rfl) stringslite_CutPrefix.ok (by decide)
  rw [stringslite_CutPrefix.eq] at h
  exact h

/-! ### strings.CutPrefix: function 149 -/
noncomputable def strings_CutPrefix : (List UInt8 × List UInt8) → Option (List UInt8 × Bool) := fun (s0, prefix1) =>
  (stringslite_CutPrefix (s0, prefix1)).bind fun (r8, r8_2) =>
    some (((r8, r8_2)))

def strings_CutPrefix.ins : Spec := ⟨11, 0, [], [0, 1], (.cons (.v .str) (.cons (.v .str) .nil))⟩
def strings_CutPrefix.outs : List Spec := [⟨11, 0, [], [4, 5], (.cons (.v .str) (.cons (.v .bool) .nil))⟩]
noncomputable def strings_CutPrefix.c : Callee' := ⟨149, mkFits strings_CutPrefix.ins strings_CutPrefix.outs, mkFun strings_CutPrefix.ins strings_CutPrefix.outs strings_CutPrefix, mkFun_nat _ _ _⟩
theorem strings_CutPrefix.quiet : FunQuiet strings_CutPrefix.c.F := mkFun_quiet rfl rfl
noncomputable def strings_CutPrefix.ann : Ann :=
  (.seq (.reg []) (.seq (.reg [.std, .std, .callq [stringslite_CutPrefix.c]]) .std))
noncomputable def strings_CutPrefix.code : Code := match Tryz.f149.body with | some c => c | none => .skip
theorem strings_CutPrefix.eq : absFn tt 11 strings_CutPrefix.ins strings_CutPrefix.outs strings_CutPrefix.code strings_CutPrefix.ann = strings_CutPrefix := by
  funext a
  kernel_rfl
theorem strings_CutPrefix.ok : strings_CutPrefix.ann.ok Tryz.prog 0 11 :=
  ann_ok (by kernel_rfl) (by kernel_rfl) (show ∀ c ∈ ([stringslite_CutPrefix.c] : List Callee'), c.ok Tryz.prog from cs_cons stringslite_CutPrefix.sound cs_nil)
    (show ∀ c ∈ ([stringslite_CutPrefix.c] : List Callee'), FunQuiet c.F from cs_cons stringslite_CutPrefix.quiet cs_nil)
theorem strings_CutPrefix.sound : strings_CutPrefix.c.ok Tryz.prog := by
  refine ⟨?_, Tryz.f149, strings_CutPrefix.code, Tryz.func149, rfl, by decide⟩
  have h := fn_sound tt_ok mix_ok (x := strings_CutPrefix.ann) (ins := strings_CutPrefix.ins) (outs := strings_CutPrefix.outs) (N := 11) Tryz.func149 (c := strings_CutPrefix.code) rfl rfl (by kernel_rfl) (by kernel_rfl) strings_CutPrefix.ok (by decide)
  rw [strings_CutPrefix.eq] at h
  exact h

/-! ### wainwright/crown.Read: function 105 -/
noncomputable def crown_Read : List UInt8 → Option ((Int × Int × Int) × Int) := fun s0 =>
  (strings_CutPrefix (s0, ([119, 97, 105, 110, 119, 114, 105, 103, 104, 116] : List UInt8))).bind fun (r11, r11_2) =>
    (crown_widths ()).bind fun r15 =>
      (mould_Read (r15, r11)).bind fun (r17, r17_2) =>
        if (!r11_2) = false then
          if (r17_2 != 0) = false then
            if ((s0.length : Int) != 128) = false then
              (crown_widths ()).bind fun r33 =>
                (mould_Size r33).bind fun r34 =>
                  if 0 ≤ r34 ∧ r34 ≤ (r11.length : Int) then
                    (strings_Trim (r11.drop r34.toNat, ([0] : List UInt8))).bind fun r36 =>
                      if (!(r36 == [])) = true then
                        some ((((0, 0, 0), 15)))
                      else
                        if 0 ≤ (0 : Int) ∧ (0 : Int) < (r17.length : Int) then
                          if 0 ≤ (1 : Int) ∧ (1 : Int) < (r17.length : Int) then
                            if 0 ≤ (2 : Int) ∧ (2 : Int) < (r17.length : Int) then
                              (crown_Right (r17.getD 0 0, r17.getD 1 0, r17.getD 2 0)).bind fun r51 =>
                                if (!r51) = true then
                                  some ((((0, 0, 0), 15)))
                                else
                                  some ((((r17.getD 0 0, r17.getD 1 0, r17.getD 2 0), 0)))
                            else none
                          else none
                        else none
                  else none
            else
              some ((((0, 0, 0), 15)))
          else
            some ((((0, 0, 0), 15)))
        else
          some ((((0, 0, 0), 15)))

def crown_Read.ins : Spec := ⟨55, 0, [], [0], (.cons (.v .str) .nil)⟩
def crown_Read.outs : List Spec := [⟨56, 0, [], [55, 3], (.cons (.v (.st (.pair I (.pair I I)))) (.cons (.v I) .nil))⟩]
noncomputable def crown_Read.c : Callee' := ⟨105, mkFits crown_Read.ins crown_Read.outs, mkFun crown_Read.ins crown_Read.outs crown_Read, mkFun_nat _ _ _⟩
theorem crown_Read.quiet : FunQuiet crown_Read.c.F := mkFun_quiet rfl rfl
noncomputable def crown_Read.ann : Ann :=
  (.seq (.reg []) (.seq (.reg [.std, .callq [strings_CutPrefix.c]]) (.seq (.reg [.callq [crown_widths.c], .std, .callq [mould_Read.c]]) (.seq (.seq (.reg [.std, .std, .std, .std, .std, .std, .std, .std, .std, .std, .std, .std, .std, .callq [crown_widths.c], .callq [mould_Size.c], .std, .callq [strings_Trim.c]]) (.cond (.seq (.reg []) .std) .std)) (.seq (.drw []) (.seq (.seq (.reg [.std, .callq [crown_Right.c]]) (.cond (.seq (.reg []) .std) .std)) (.seq (.reg []) .std)))))))
noncomputable def crown_Read.code : Code := match Tryz.f105.body with | some c => c | none => .skip
theorem crown_Read.eq : absFnR tt 55 [(2, 81)] crown_Read.ins crown_Read.outs crown_Read.code crown_Read.ann = crown_Read := by
  funext a
  kernel_rfl
theorem crown_Read.ok : crown_Read.ann.ok Tryz.prog 0 55 :=
  ann_ok (by kernel_rfl) (by kernel_rfl) (show ∀ c ∈ ([strings_CutPrefix.c, crown_widths.c, mould_Read.c, crown_widths.c, mould_Size.c, strings_Trim.c, crown_Right.c] : List Callee'), c.ok Tryz.prog from cs_cons strings_CutPrefix.sound (cs_cons crown_widths.sound (cs_cons mould_Read.sound (cs_cons crown_widths.sound (cs_cons mould_Size.sound (cs_cons strings_Trim.sound (cs_cons crown_Right.sound cs_nil)))))))
    (show ∀ c ∈ ([strings_CutPrefix.c, crown_widths.c, mould_Read.c, crown_widths.c, mould_Size.c, strings_Trim.c, crown_Right.c] : List Callee'), FunQuiet c.F from cs_cons strings_CutPrefix.quiet (cs_cons crown_widths.quiet (cs_cons mould_Read.quiet (cs_cons crown_widths.quiet (cs_cons mould_Size.quiet (cs_cons strings_Trim.quiet (cs_cons crown_Right.quiet cs_nil)))))))
theorem crown_Read.sound : crown_Read.c.ok Tryz.prog := by
  refine ⟨?_, Tryz.f105, crown_Read.code, Tryz.func105, rfl, by decide⟩
  have h := fn_soundR tt_ok mix_ok (x := crown_Read.ann) (ins := crown_Read.ins) (outs := crown_Read.outs) (N := 55) (cells := [(2, 81)]) Tryz.func105 (c := crown_Read.code) rfl rfl (by kernel_rfl) (by kernel_rfl) (by kernel_rfl) crown_Read.ok (by decide)
  rw [crown_Read.eq] at h
  exact h

/-! ### (*wainwright/deal.Deal).Crown: function 50 -/
noncomputable def deal_Deal_Crown_1 : (((List (List UInt8) × (List (Int × List UInt8)) × Int × Int) × Bool × Int) × List (Int × List UInt8)) → Option ((Int × Int × Int) × Int) := fun d0 =>
  (deal_written_get (d0, 0)).bind fun r13 =>
    (crown_Read r13).bind fun (r14, r14_2) =>
      if (r14_2 != 0) = false then
        (log_Log_Size d0.1).bind fun r27 =>
          if decide (r14.2.1 > r27) = true then
            some ((((0, 0, 0), 15)))
          else
            some ((((r14.1, r14.2.1, r14.2.2), 0)))
      else
        some ((((0, 0, 0), 15)))

def deal_Deal_Crown_1.ins : Spec := ⟨32, 0, [], [0], (.cons (.v (.ptr (.pair (.ptr (.pair (.ptr (.pair (.sl .str) (.pair (.map I .str) (.pair I I)))) (.pair .bool I))) (.map I .str)))) .nil)⟩
def deal_Deal_Crown_1.outs : List Spec := [⟨33, 0, [], [32, 3], (.cons (.v (.st (.pair I (.pair I I)))) (.cons (.v I) .nil))⟩]
noncomputable def deal_Deal_Crown_1.c : Callee' := ⟨50, mkFits deal_Deal_Crown_1.ins deal_Deal_Crown_1.outs, mkFun deal_Deal_Crown_1.ins deal_Deal_Crown_1.outs deal_Deal_Crown_1, mkFun_nat _ _ _⟩
theorem deal_Deal_Crown_1.quiet : FunQuiet deal_Deal_Crown_1.c.F := mkFun_quiet rfl rfl
noncomputable def deal_Deal_Crown_1.ann : Ann :=
  (.seq (.reg []) (.seq (.seq (.reg [.std, .obj .bool]) (.cond (.seq (.reg []) .std) .std)) (.seq (.reg [.std, .std, .std, .callq [deal_written_get.c], .callq [crown_Read.c]]) (.seq (.seq (.drw [.std, .std, .std, .std, .std, .std, .std, .std, .std, .std, .callq [log_Log_Size.c]]) (.cond (.seq (.reg []) .std) .std)) (.seq (.reg []) .std)))))
noncomputable def deal_Deal_Crown_1.code : Code := match Tryz.f50.body with | some c => c | none => .skip
theorem deal_Deal_Crown_1.eq : absFnR tt 32 [(2, 81)] deal_Deal_Crown_1.ins deal_Deal_Crown_1.outs deal_Deal_Crown_1.code deal_Deal_Crown_1.ann = deal_Deal_Crown_1 := by
  funext a
  kernel_rfl
theorem deal_Deal_Crown_1.ok : deal_Deal_Crown_1.ann.ok Tryz.prog 0 32 :=
  ann_ok (by kernel_rfl) (by kernel_rfl) (show ∀ c ∈ ([deal_written_get.c, crown_Read.c, log_Log_Size.c] : List Callee'), c.ok Tryz.prog from cs_cons deal_written_get.sound (cs_cons crown_Read.sound (cs_cons log_Log_Size.sound cs_nil)))
    (show ∀ c ∈ ([deal_written_get.c, crown_Read.c, log_Log_Size.c] : List Callee'), FunQuiet c.F from cs_cons deal_written_get.quiet (cs_cons crown_Read.quiet (cs_cons log_Log_Size.quiet cs_nil)))
theorem deal_Deal_Crown_1.sound : deal_Deal_Crown_1.c.ok Tryz.prog := by
  refine ⟨?_, Tryz.f50, deal_Deal_Crown_1.code, Tryz.func50, rfl, by decide⟩
  have h := fn_soundR tt_ok mix_ok (x := deal_Deal_Crown_1.ann) (ins := deal_Deal_Crown_1.ins) (outs := deal_Deal_Crown_1.outs) (N := 32) (cells := [(2, 81)]) Tryz.func50 (c := deal_Deal_Crown_1.code) rfl rfl (by kernel_rfl) (by kernel_rfl) (by kernel_rfl) deal_Deal_Crown_1.ok (by decide)
  rw [deal_Deal_Crown_1.eq] at h
  exact h

/-! ### (*wainwright/deal.Deal).Read: function 49 -/
noncomputable def deal_Deal_Read_1 : ((((List (List UInt8) × (List (Int × List UInt8)) × Int × Int) × Bool × Int) × List (Int × List UInt8)) × Int) → Option (List UInt8 × Int) := fun (d0, i1) =>
  (deal_written_there (d0, i1)).bind fun r13 =>
    if (!r13) = true then
      some ((([], 1)))
    else
      (deal_written_get (d0, i1)).bind fun r20 =>
        some (((r20, 0)))

def deal_Deal_Read_1.ins : Spec := ⟨21, 0, [], [0, 1], (.cons (.v (.ptr (.pair (.ptr (.pair (.ptr (.pair (.sl .str) (.pair (.map I .str) (.pair I I)))) (.pair .bool I))) (.map I .str)))) (.cons (.v I) .nil))⟩
def deal_Deal_Read_1.outs : List Spec := [⟨21, 0, [], [4, 5], (.cons (.v .str) (.cons (.v I) .nil))⟩]
noncomputable def deal_Deal_Read_1.c : Callee' := ⟨49, mkFits deal_Deal_Read_1.ins deal_Deal_Read_1.outs, mkFun deal_Deal_Read_1.ins deal_Deal_Read_1.outs deal_Deal_Read_1, mkFun_nat _ _ _⟩
theorem deal_Deal_Read_1.quiet : FunQuiet deal_Deal_Read_1.c.F := mkFun_quiet rfl rfl
noncomputable def deal_Deal_Read_1.ann : Ann :=
  (.seq (.reg []) (.seq (.seq (.reg [.std, .obj .bool, .std, .std, .std, .std, .std, .callq [deal_written_there.c]]) (.cond (.seq (.reg []) .std) .std)) (.seq (.reg [.std, .std, .std, .std, .callq [deal_written_get.c]]) .std)))
noncomputable def deal_Deal_Read_1.code : Code := match Tryz.f49.body with | some c => c | none => .skip
theorem deal_Deal_Read_1.eq : absFn tt 21 deal_Deal_Read_1.ins deal_Deal_Read_1.outs deal_Deal_Read_1.code deal_Deal_Read_1.ann = deal_Deal_Read_1 := by
  funext a
  kernel_rfl
theorem deal_Deal_Read_1.ok : deal_Deal_Read_1.ann.ok Tryz.prog 0 21 :=
  ann_ok (by kernel_rfl) (by kernel_rfl) (show ∀ c ∈ ([deal_written_there.c, deal_written_get.c] : List Callee'), c.ok Tryz.prog from cs_cons deal_written_there.sound (cs_cons deal_written_get.sound cs_nil))
    (show ∀ c ∈ ([deal_written_there.c, deal_written_get.c] : List Callee'), FunQuiet c.F from cs_cons deal_written_there.quiet (cs_cons deal_written_get.quiet cs_nil))
theorem deal_Deal_Read_1.sound : deal_Deal_Read_1.c.ok Tryz.prog := by
  refine ⟨?_, Tryz.f49, deal_Deal_Read_1.code, Tryz.func49, rfl, by decide⟩
  have h := fn_sound tt_ok mix_ok (x := deal_Deal_Read_1.ann) (ins := deal_Deal_Read_1.ins) (outs := deal_Deal_Read_1.outs) (N := 21) Tryz.func49 (c := deal_Deal_Read_1.code) rfl rfl (by kernel_rfl) (by kernel_rfl) deal_Deal_Read_1.ok (by decide)
  rw [deal_Deal_Read_1.eq] at h
  exact h

/-! ### wainwright/stock.open: function 89 -/
noncomputable def stock_open_1 : ((Bool × Int) × (List (Int × List UInt8)) × (Int × Int) × List (List UInt8) × List (Int × List UInt8)) → Option ((((Bool × Int) × (List (Int × List UInt8)) × (Int × Int) × List (List UInt8) × List (Int × List UInt8)) × Int) ⊕ (((Bool × Int) × (List (Int × List UInt8)) × (Int × Int) × List (List UInt8) × (List (Int × List UInt8)) × Int × Int × Int × List UInt8) × Int)) := fun ((o1b, o1c), o2, (o3c, o3d), o4, o5) =>
  (deal_Deal_Crown_1 (((o4, o5, o3c, o3d), o1b, o1c), o2)).bind fun (r9, r9_2) =>
    if (r9_2 != 0) = true then
      some (.inl ((((o1b, o1c), o2, (o3c, o3d), o4, o5), r9_2)))
    else
      (deal_Deal_Read_1 ((((o4, o5, o3c, o3d), o1b, o1c), o2), 42)).bind fun (r17, r17_2) =>
        if (r17_2 != 0) = true then
          some (.inl ((((o1b, o1c), o2, (o3c, o3d), o4, o5), r17_2)))
        else
          some (.inr (((((o1b, o1c), o2, (o3c, o3d), o4, o5, r9.1, r9.2.1, r9.2.2, r17), 0))))

def stock_open_1.ins : Spec := ⟨28, 0, [.box (.cons (.ref 1) (.cons (.ref 2) .nil)), .box (.cons (.ref 3) (.cons (.v .bool) (.cons (.v I) .nil))), .map I .str, .box (.cons (.ref 4) (.cons (.ref 5) (.cons (.v I) (.cons (.v I) .nil)))), .arr .str, .map I .str], [0], (.cons (.ref 0) .nil)⟩
def stock_open_1.outs : List Spec := [⟨28, 6, [.box (.cons (.ref 1) (.cons (.ref 2) .nil)), .box (.cons (.ref 3) (.cons (.v .bool) (.cons (.v I) .nil))), .map I .str, .box (.cons (.ref 4) (.cons (.ref 5) (.cons (.v I) (.cons (.v I) .nil)))), .arr .str, .map I .str], [2, 3], (.cons (.nilptr) (.cons (.v I) .nil))⟩, ⟨28, 6, [.box (.cons (.ref 1) (.cons (.ref 2) .nil)), .box (.cons (.ref 3) (.cons (.v .bool) (.cons (.v I) .nil))), .map I .str, .box (.cons (.ref 4) (.cons (.ref 5) (.cons (.v I) (.cons (.v I) .nil)))), .arr .str, .map I .str, .box (.cons (.ref 0) (.cons (.v I) (.cons (.v I) (.cons (.v I) (.cons (.v .str) .nil)))))], [2, 3], (.cons (.ref 6) (.cons (.v I) .nil))⟩]
noncomputable def stock_open_1.c : Callee' := ⟨89, mkFits stock_open_1.ins stock_open_1.outs, mkFun stock_open_1.ins stock_open_1.outs stock_open_1, mkFun_nat _ _ _⟩
noncomputable def stock_open_1.ann : Ann :=
  (.seq (.reg []) (.seq (.reg [.std, .callq [deal_Deal_Crown_1.c]]) (.seq (.seq (.reg []) (.cond (.seq (.reg []) .std) .std)) (.seq (.reg [.std, .callq [deal_Deal_Read_1.c]]) (.seq (.seq (.reg []) (.cond (.seq (.reg []) .std) .std)) (.seq (.reg []) .std))))))
noncomputable def stock_open_1.code : Code := match Tryz.f89.body with | some c => c | none => .skip
theorem stock_open_1.eq : absFn tt 28 stock_open_1.ins stock_open_1.outs stock_open_1.code stock_open_1.ann = stock_open_1 := by
  funext a
  kernel_rfl
theorem stock_open_1.ok : stock_open_1.ann.ok Tryz.prog 6 28 :=
  ann_ok (by kernel_rfl) (by kernel_rfl) (show ∀ c ∈ ([deal_Deal_Crown_1.c, deal_Deal_Read_1.c] : List Callee'), c.ok Tryz.prog from cs_cons deal_Deal_Crown_1.sound (cs_cons deal_Deal_Read_1.sound cs_nil))
    (show ∀ c ∈ ([deal_Deal_Crown_1.c, deal_Deal_Read_1.c] : List Callee'), FunQuiet c.F from cs_cons deal_Deal_Crown_1.quiet (cs_cons deal_Deal_Read_1.quiet cs_nil))
theorem stock_open_1.sound : stock_open_1.c.ok Tryz.prog := by
  refine ⟨?_, Tryz.f89, stock_open_1.code, Tryz.func89, rfl, by decide⟩
  have h := fn_sound tt_ok mix_ok (x := stock_open_1.ann) (ins := stock_open_1.ins) (outs := stock_open_1.outs) (N := 28) Tryz.func89 (c := stock_open_1.code) rfl rfl (by kernel_rfl) (by kernel_rfl) stock_open_1.ok (by decide)
  rw [stock_open_1.eq] at h
  exact h

/-! ### wainwright/stock.Free: function 42 -/
noncomputable def stock_Free_1 : ((Bool × Int) × (List (Int × List UInt8)) × (Int × Int) × List (List UInt8) × List (Int × List UInt8)) → Option (((Bool × Int) × (List (Int × List UInt8)) × (Int × Int) × List (List UInt8) × List (Int × List UInt8)) × Int × Int) := fun ((o1b, o1c), o2, (o3c, o3d), o4, o5) =>
  (stock_open_1 ((o1b, o1c), o2, (o3c, o3d), o4, o5)).bind fun d => match d with
  | .inl (((r8, r8_2), r8_3, (r8_4, r8_5), r8_6, r8_7), r8_8) =>
    if (r8_8 != 0) = true then
      some (((((r8, r8_2), r8_3, (r8_4, r8_5), r8_6, r8_7), 0, r8_8)))
    else none
  | .inr ((((r8b, r8_2b), r8_3b, (r8_4b, r8_5b), r8_6b, r8_7b, r8_8b, r8_9b, r8_10b, r8_11b), r8_12b)) =>
    if (r8_12b != 0) = true then
      some (((((r8b, r8_2b), r8_3b, (r8_4b, r8_5b), r8_6b, r8_7b), 0, r8_12b)))
    else
      (stock_low r8_11b).bind fun r23 =>
        (marks_Count (r23, r8_9b)).bind fun r29 =>
          some (((((r8b, r8_2b), r8_3b, (r8_4b, r8_5b), r8_6b, r8_7b), IntKind.i64.wrap (r8_9b - r29), 0)))

def stock_Free_1.ins : Spec := ⟨31, 0, [.box (.cons (.ref 1) (.cons (.ref 2) .nil)), .box (.cons (.ref 3) (.cons (.v .bool) (.cons (.v I) .nil))), .map I .str, .box (.cons (.ref 4) (.cons (.ref 5) (.cons (.v I) (.cons (.v I) .nil)))), .arr .str, .map I .str], [0], (.cons (.ref 0) .nil)⟩
def stock_Free_1.outs : List Spec := [⟨31, 6, [.box (.cons (.ref 1) (.cons (.ref 2) .nil)), .box (.cons (.ref 3) (.cons (.v .bool) (.cons (.v I) .nil))), .map I .str, .box (.cons (.ref 4) (.cons (.ref 5) (.cons (.v I) (.cons (.v I) .nil)))), .arr .str, .map I .str], [2, 3], (.cons (.v I) (.cons (.v I) .nil))⟩]
noncomputable def stock_Free_1.c : Callee' := ⟨42, mkFits stock_Free_1.ins stock_Free_1.outs, mkFun stock_Free_1.ins stock_Free_1.outs stock_Free_1, mkFun_nat _ _ _⟩
noncomputable def stock_Free_1.ann : Ann :=
  (.seq (.reg []) (.seq (.reg [.std, .call [stock_open_1.c]]) (.seq (.seq (.reg []) (.cond (.seq (.reg []) .std) .std)) (.seq (.drw [.std, .std, .std, .std, .std, .std, .std, .std, .std, .callq [stock_low.c], .std, .std, .std, .std, .std, .callq [marks_Count.c]]) .std))))
noncomputable def stock_Free_1.code : Code := match Tryz.f42.body with | some c => c | none => .skip
theorem stock_Free_1.eq : absFn tt 31 stock_Free_1.ins stock_Free_1.outs stock_Free_1.code stock_Free_1.ann = stock_Free_1 := by
  funext a
  kernel_rfl
theorem stock_Free_1.ok : stock_Free_1.ann.ok Tryz.prog 6 31 :=
  ann_ok (by kernel_rfl) (by kernel_rfl) (show ∀ c ∈ ([stock_open_1.c, stock_low.c, marks_Count.c] : List Callee'), c.ok Tryz.prog from cs_cons stock_open_1.sound (cs_cons stock_low.sound (cs_cons marks_Count.sound cs_nil)))
    (show ∀ c ∈ ([stock_low.c, marks_Count.c] : List Callee'), FunQuiet c.F from cs_cons stock_low.quiet (cs_cons marks_Count.quiet cs_nil))
theorem stock_Free_1.sound : stock_Free_1.c.ok Tryz.prog := by
  refine ⟨?_, Tryz.f42, stock_Free_1.code, Tryz.func42, rfl, by decide⟩
  have h := fn_sound tt_ok mix_ok (x := stock_Free_1.ann) (ins := stock_Free_1.ins) (outs := stock_Free_1.outs) (N := 31) Tryz.func42 (c := stock_Free_1.code) rfl rfl (by kernel_rfl) (by kernel_rfl) stock_Free_1.ok (by decide)
  rw [stock_Free_1.eq] at h
  exact h

/-! ### (*wainwright/stock.store).row: function 90 -/
noncomputable def stock_store_row_1 : (((((List (List UInt8) × (List (Int × List UInt8)) × Int × Int) × Bool × Int) × List (Int × List UInt8)) × Int × Int × Int × List UInt8) × Int) → Option (Int × Int) := fun (s0, n1) =>
  (marks_Run (s0.2.2.2.2, 51, s0.2.2.1, n1)).bind fun (r19, r19_2) =>
    if r19_2 = true then
      some (((r19, n1)))
    else
      (stock_low s0.2.2.2.2).bind fun r29 =>
        (marks_Longest (r29, s0.2.2.1)).bind fun (r35, r35_2) =>
          some (((r35, r35_2)))

def stock_store_row_1.ins : Spec := ⟨38, 0, [], [0, 1], (.cons (.v (.ptr (.pair (.ptr (.pair (.ptr (.pair (.ptr (.pair (.sl .str) (.pair (.map I .str) (.pair I I)))) (.pair .bool I))) (.map I .str))) (.pair I (.pair I (.pair I .str)))))) (.cons (.v I) .nil))⟩
def stock_store_row_1.outs : List Spec := [⟨38, 0, [], [4, 5], (.cons (.v I) (.cons (.v I) .nil))⟩]
noncomputable def stock_store_row_1.c : Callee' := ⟨90, mkFits stock_store_row_1.ins stock_store_row_1.outs, mkFun stock_store_row_1.ins stock_store_row_1.outs stock_store_row_1, mkFun_nat _ _ _⟩
theorem stock_store_row_1.quiet : FunQuiet stock_store_row_1.c.F := mkFun_quiet rfl rfl
noncomputable def stock_store_row_1.ann : Ann :=
  (.seq (.reg []) (.seq (.seq (.drw [.std, .std, .std, .std, .std, .std, .std, .std, .std, .std, .callq [marks_Run.c]]) (.seq (.reg []) (.cond (.seq (.reg []) .std) .std))) (.seq (.drw [.std, .std, .std, .std, .callq [stock_low.c], .std, .std, .std, .std, .std, .callq [marks_Longest.c]]) .std)))
noncomputable def stock_store_row_1.code : Code := match Tryz.f90.body with | some c => c | none => .skip
theorem stock_store_row_1.eq : absFn tt 38 stock_store_row_1.ins stock_store_row_1.outs stock_store_row_1.code stock_store_row_1.ann = stock_store_row_1 := by
  funext a
  kernel_rfl
theorem stock_store_row_1.ok : stock_store_row_1.ann.ok Tryz.prog 0 38 :=
  ann_ok (by kernel_rfl) (by kernel_rfl) (show ∀ c ∈ ([marks_Run.c, stock_low.c, marks_Longest.c] : List Callee'), c.ok Tryz.prog from cs_cons marks_Run.sound (cs_cons stock_low.sound (cs_cons marks_Longest.sound cs_nil)))
    (show ∀ c ∈ ([marks_Run.c, stock_low.c, marks_Longest.c] : List Callee'), FunQuiet c.F from cs_cons marks_Run.quiet (cs_cons stock_low.quiet (cs_cons marks_Longest.quiet cs_nil)))
theorem stock_store_row_1.sound : stock_store_row_1.c.ok Tryz.prog := by
  refine ⟨?_, Tryz.f90, stock_store_row_1.code, Tryz.func90, rfl, by decide⟩
  have h := fn_sound tt_ok mix_ok (x := stock_store_row_1.ann) (ins := stock_store_row_1.ins) (outs := stock_store_row_1.outs) (N := 38) Tryz.func90 (c := stock_store_row_1.code) rfl rfl (by kernel_rfl) (by kernel_rfl) stock_store_row_1.ok (by decide)
  rw [stock_store_row_1.eq] at h
  exact h

end Go.Proofs.YtiodpeekbeahlaaGreatDoor.Abs
