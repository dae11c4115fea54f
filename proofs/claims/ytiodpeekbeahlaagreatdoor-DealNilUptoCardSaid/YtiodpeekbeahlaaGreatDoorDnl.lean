/- The functions as the abstract machine computes them: printed by gen2.py (own work). -/
import Derived.Test.YtiodpeekbeahlaaGreatDoorAbsStrs
import Derived.Test.YtiodpeekbeahlaaGreatDoorAbsSortedKeys
import Derived.Test.YtiodpeekbeahlaaGreatDoorImageF
import Derived.Test.YtiodpeekbeahlaaGreatDoorAbsFnR
import Derived.Test.YtiodpeekbeahlaaGreatDoorProg
import Derived.Test.YtiodpeekbeahlaaGreatDoorAbsFn
import Derived.KernelRfl
namespace Go.Proofs.YtiodpeekbeahlaaGreatDoor.Abs
open Go Go.Proofs
abbrev I := Ty.int .i64
set_option maxRecDepth 100000
set_option linter.unusedVariables false

def tt : Nat → TI
  | 3 => ⟨.int .i64, 1, 8, [.int .i64 0]⟩
  | 4 => ⟨.bool, 1, 1, [.bool false]⟩
  | 5 => ⟨.int .u8, 1, 1, [.int .u8 0]⟩
  | 9 => ⟨.str, 1, 16, [.string .empty]⟩
  | 22 => ⟨.sl 3, 1, 24, [.slice none 0 0]⟩
  | 23 => ⟨.sl 5, 1, 24, [.slice none 0 0]⟩
  | 27 => ⟨.ptr 117, 1, 8, [.pointer none]⟩
  | 28 => ⟨.int .i64, 1, 8, [.int .i64 0]⟩
  | 33 => ⟨.sl 115, 1, 24, [.slice none 0 0]⟩
  | 39 => ⟨.int .u64, 1, 8, [.int .u64 0]⟩
  | 40 => ⟨.ptr 126, 1, 8, [.pointer none]⟩
  | 42 => ⟨.sl 9, 1, 24, [.slice none 0 0]⟩
  | 65 => ⟨.ptr 153, 1, 8, [.pointer none]⟩
  | 81 => ⟨.st [(3, 0), (3, 1), (3, 2)], 3, 24, [.int .i64 0, .int .i64 0, .int .i64 0]⟩
  | 82 => ⟨.sl 190, 1, 24, [.slice none 0 0]⟩
  | 84 => ⟨.st [(3, 0), (3, 1), (3, 2), (3, 3), (22, 4), (3, 5), (3, 6), (82, 7), (3, 8)], 9, 104, [.int .i64 0, .int .i64 0, .int .i64 0, .int .i64 0, .slice none 0 0, .int .i64 0, .int .i64 0, .slice none 0 0, .int .i64 0]⟩
  | 86 => ⟨.st [(3, 0), (3, 1), (9, 2), (81, 3), (84, 6)], 15, 160, [.int .i64 0, .int .i64 0, .string .empty, .int .i64 0, .int .i64 0, .int .i64 0, .int .i64 0, .int .i64 0, .int .i64 0, .int .i64 0, .slice none 0 0, .int .i64 0, .int .i64 0, .slice none 0 0, .int .i64 0]⟩
  | 115 => ⟨.st [(3, 0), (9, 1)], 2, 24, [.int .i64 0, .string .empty]⟩
  | 117 => ⟨.st [(40, 0), (4, 1), (3, 2)], 3, 24, [.pointer none, .bool false, .int .i64 0]⟩
  | 124 => ⟨.map 3 9, 1, 8, [.map none]⟩
  | 126 => ⟨.st [(42, 0), (124, 1), (3, 2), (3, 3)], 4, 48, [.slice none 0 0, .map none, .int .i64 0, .int .i64 0]⟩
  | 151 => ⟨.st [(27, 0), (124, 1)], 2, 16, [.pointer none, .map none]⟩
  | 153 => ⟨.st [(151, 0)], 2, 16, [.pointer none, .map none]⟩
  | 171 => ⟨.sl 172, 1, 24, [.slice none 0 0]⟩
  | 172 => ⟨.func, 1, 8, [.nilFunc]⟩
  | 190 => ⟨.st [(3, 0), (3, 1), (3, 2)], 3, 24, [.int .i64 0, .int .i64 0, .int .i64 0]⟩
  | 195 => ⟨.arr 256 4, 256, 256, [.bool false, .bool false, .bool false, .bool false, .bool false, .bool false, .bool false, .bool false, .bool false, .bool false, .bool false, .bool false, .bool false, .bool false, .bool false, .bool false, .bool false, .bool false, .bool false, .bool false, .bool false, .bool false, .bool false, .bool false, .bool false, .bool false, .bool false, .bool false, .bool false, .bool false, .bool false, .bool false, .bool false, .bool false, .bool false, .bool false, .bool false, .bool false, .bool false, .bool false, .bool false, .bool false, .bool false, .bool false, .bool false, .bool false, .bool false, .bool false, .bool false, .bool false, .bool false, .bool false, .bool false, .bool false, .bool false, .bool false, .bool false, .bool false, .bool false, .bool false, .bool false, .bool false, .bool false, .bool false, .bool false, .bool false, .bool false, .bool false, .bool false, .bool false, .bool false, .bool false, .bool false, .bool false, .bool false, .bool false, .bool false, .bool false, .bool false, .bool false, .bool false, .bool false, .bool false, .bool false, .bool false, .bool false, .bool false, .bool false, .bool false, .bool false, .bool false, .bool false, .bool false, .bool false, .bool false, .bool false, .bool false, .bool false, .bool false, .bool false, .bool false, .bool false, .bool false, .bool false, .bool false, .bool false, .bool false, .bool false, .bool false, .bool false, .bool false, .bool false, .bool false, .bool false, .bool false, .bool false, .bool false, .bool false, .bool false, .bool false, .bool false, .bool false, .bool false, .bool false, .bool false, .bool false, .bool false, .bool false, .bool false, .bool false, .bool false, .bool false, .bool false, .bool false, .bool false, .bool false, .bool false, .bool false, .bool false, .bool false, .bool false, .bool false, .bool false, .bool false, .bool false, .bool false, .bool false, .bool false, .bool false, .bool false, .bool false, .bool false, .bool false, .bool false, .bool false, .bool false, .bool false, .bool false, .bool false, .bool false, .bool false, .bool false, .bool false, .bool false, .bool false, .bool false, .bool false, .bool false, .bool false, .bool false, .bool false, .bool false, .bool false, .bool false, .bool false, .bool false, .bool false, .bool false, .bool false, .bool false, .bool false, .bool false, .bool false, .bool false, .bool false, .bool false, .bool false, .bool false, .bool false, .bool false, .bool false, .bool false, .bool false, .bool false, .bool false, .bool false, .bool false, .bool false, .bool false, .bool false, .bool false, .bool false, .bool false, .bool false, .bool false, .bool false, .bool false, .bool false, .bool false, .bool false, .bool false, .bool false, .bool false, .bool false, .bool false, .bool false, .bool false, .bool false, .bool false, .bool false, .bool false, .bool false, .bool false, .bool false, .bool false, .bool false, .bool false, .bool false, .bool false, .bool false, .bool false, .bool false, .bool false, .bool false, .bool false, .bool false, .bool false, .bool false, .bool false, .bool false, .bool false, .bool false, .bool false, .bool false, .bool false, .bool false, .bool false, .bool false, .bool false, .bool false, .bool false, .bool false, .bool false, .bool false, .bool false, .bool false]⟩
  | 200 => ⟨.map 3 3, 1, 8, [.map none]⟩
  | 222 => ⟨.int .u32, 1, 4, [.int .u32 0]⟩
  | 225 => ⟨.int .u64, 1, 8, [.int .u64 0]⟩
  | _ => ⟨.other, 0, 0, []⟩
theorem tt_ok : TTok Tryz.prog tt := by
  intro t
  unfold tt
  split
  · exact .inr (ti_ok (d := .int .i64) (by kernel_rfl) (by simp [TK.fits]) (by kernel_rfl))
  · exact .inr (ti_ok (d := .bool) (by kernel_rfl) (by simp [TK.fits]) (by kernel_rfl))
  · exact .inr (ti_ok (d := .int .u8) (by kernel_rfl) (by simp [TK.fits]) (by kernel_rfl))
  · exact .inr (ti_ok (d := .string) (by kernel_rfl) (by simp [TK.fits]) (by kernel_rfl))
  · exact .inr (ti_ok (d := .slice 3) (by kernel_rfl) (by simp [TK.fits]) (by kernel_rfl))
  · exact .inr (ti_ok (d := .slice 5) (by kernel_rfl) (by simp [TK.fits]) (by kernel_rfl))
  · exact .inr (ti_ok (d := .pointer 117) (by kernel_rfl) (by simp [TK.fits]) (by kernel_rfl))
  · exact .inr (ti_ok (d := .int .i64) (by kernel_rfl) (by simp [TK.fits]) (by kernel_rfl))
  · exact .inr (ti_ok (d := .slice 115) (by kernel_rfl) (by simp [TK.fits]) (by kernel_rfl))
  · exact .inr (ti_ok (d := .int .u64) (by kernel_rfl) (by simp [TK.fits]) (by kernel_rfl))
  · exact .inr (ti_ok (d := .pointer 126) (by kernel_rfl) (by simp [TK.fits]) (by kernel_rfl))
  · exact .inr (ti_ok (d := .slice 9) (by kernel_rfl) (by simp [TK.fits]) (by kernel_rfl))
  · exact .inr (ti_ok (d := .pointer 153) (by kernel_rfl) (by simp [TK.fits]) (by kernel_rfl))
  · exact .inr (ti_ok_st (by kernel_rfl) (by kernel_rfl))
  · exact .inr (ti_ok (d := .slice 190) (by kernel_rfl) (by simp [TK.fits]) (by kernel_rfl))
  · exact .inr (ti_ok_st (by kernel_rfl) (by kernel_rfl))
  · exact .inr (ti_ok_st (by kernel_rfl) (by kernel_rfl))
  · exact .inr (ti_ok_st (by kernel_rfl) (by kernel_rfl))
  · exact .inr (ti_ok_st (by kernel_rfl) (by kernel_rfl))
  · exact .inr (ti_ok (d := .map 3 9) (by kernel_rfl) (by simp [TK.fits]) (by kernel_rfl))
  · exact .inr (ti_ok_st (by kernel_rfl) (by kernel_rfl))
  · exact .inr (ti_ok_st (by kernel_rfl) (by kernel_rfl))
  · exact .inr (ti_ok_st (by kernel_rfl) (by kernel_rfl))
  · exact .inr (ti_ok (d := .slice 172) (by kernel_rfl) (by simp [TK.fits]) (by kernel_rfl))
  · exact .inr (ti_ok_fn (by kernel_rfl) rfl (by kernel_rfl))
  · exact .inr (ti_ok_st (by kernel_rfl) (by kernel_rfl))
  · exact .inr (ti_ok (d := .array 256 4) (by kernel_rfl) (by simp [TK.fits]) (by kernel_rfl))
  · exact .inr (ti_ok (d := .map 3 3) (by kernel_rfl) (by simp [TK.fits]) (by kernel_rfl))
  · exact .inr (ti_ok (d := .int .u32) (by kernel_rfl) (by simp [TK.fits]) (by kernel_rfl))
  · exact .inr (ti_ok (d := .int .u64) (by kernel_rfl) (by simp [TK.fits]) (by kernel_rfl))
  · exact .inl rfl
theorem mix_ok : Tryz.prog.follows .mixedOrders = true := by kernel_rfl


/-! ### wainwright/mould.fits: function 155 -/
noncomputable def mould_fits : (List UInt8 × Int) → Option (Int) := fun (s0, n1) =>
  ((
    if decide (n1 < 0) = false then
      some (((s0, n1, decide (n1 > 1000))))
    else
      some (((s0, n1, true)))) : Option (List UInt8 × Int × Bool)).bind fun (s0, n1, t5) =>
    if t5 = true then
      some 1
    else
      if decide ((s0.length : Int) > n1) = true then
        some 3
      else
        some 0

def mould_fits.ins : Spec := ⟨17, 0, [], [0, 1], (.cons (.v .str) (.cons (.v I) .nil))⟩
def mould_fits.outs : List Spec := [⟨17, 0, [], [4], (.cons (.v I) .nil)⟩]
noncomputable def mould_fits.c : Callee' := ⟨155, mkFits mould_fits.ins mould_fits.outs, mkFun mould_fits.ins mould_fits.outs mould_fits, mkFun_nat _ _ _⟩
theorem mould_fits.quiet : FunQuiet mould_fits.c.F := mkFun_quiet rfl rfl
noncomputable def mould_fits.ann : Ann :=
  (.seq (.reg []) (.seq (.block (.join [(.norm, ⟨17, 0, [], [0, 1, 5], (.cons (.v .str) (.cons (.v I) (.cons (.v .bool) .nil)))⟩)]
  (.reg []) (.cond (.seq (.reg []) .std) (.seq (.reg []) (.cond (.seq (.reg []) .std) .std))))) (.seq (.reg []) .std)))
noncomputable def mould_fits.code : Code := match Tryz.f155.body with | some c => c | none => .skip
theorem mould_fits.eq : absFn tt 17 mould_fits.ins mould_fits.outs mould_fits.code mould_fits.ann = mould_fits := by
  funext a
  kernel_rfl
theorem mould_fits.ok : mould_fits.ann.ok Tryz.prog 0 17 :=
  ann_ok (by kernel_rfl) (by kernel_rfl) (show ∀ c ∈ ([] : List Callee'), c.ok Tryz.prog from cs_nil)
    (show ∀ c ∈ ([] : List Callee'), FunQuiet c.F from cs_nil)
theorem mould_fits.sound : mould_fits.c.ok Tryz.prog := by
  refine ⟨?_, Tryz.f155, mould_fits.code, Tryz.func155, rfl, by decide⟩
  have h := fn_sound tt_ok mix_ok (x := mould_fits.ann) (ins := mould_fits.ins) (outs := mould_fits.outs) (N := 17) Tryz.func155 (c := mould_fits.code) rfl rfl (by kernel_rfl) (by kernel_rfl) mould_fits.ok (by decide)
  rw [mould_fits.eq] at h
  exact h

/-! ### wainwright/mould.Pad: function 109 -/
noncomputable def mould_Pad : (List UInt8 × Int) → Option (List UInt8 × Int) := fun (s0, n1) =>
  (mould_fits (s0, n1)).bind fun r9 =>
    if (r9 != 0) = true then
      some ((([], r9)))
    else
      (strings_Repeat (([0] : List UInt8), IntKind.i64.wrap (n1 - (s0.length : Int)))).bind fun r18 =>
        if s0.length + r18.length ≤ 9223372036854775807 then
          some (((s0 ++ r18, 0)))
        else none

def mould_Pad.ins : Spec := ⟨20, 0, [], [0, 1], (.cons (.v .str) (.cons (.v I) .nil))⟩
def mould_Pad.outs : List Spec := [⟨20, 0, [], [4, 5], (.cons (.v .str) (.cons (.v I) .nil))⟩]
noncomputable def mould_Pad.c : Callee' := ⟨109, mkFits mould_Pad.ins mould_Pad.outs, mkFun mould_Pad.ins mould_Pad.outs mould_Pad, mkFun_nat _ _ _⟩
theorem mould_Pad.quiet : FunQuiet mould_Pad.c.F := mkFun_quiet rfl rfl
noncomputable def mould_Pad.ann : Ann :=
  (.seq (.reg []) (.seq (.seq (.reg [.std, .std, .callq [mould_fits.c]]) (.seq (.reg []) (.cond (.seq (.reg []) .std) .std))) (.seq (.reg [.std, .std, .std, .std, .std, .callq [strings_Repeat.c]]) .std)))
noncomputable def mould_Pad.code : Code := match Tryz.f109.body with | some c => c | none => .skip
theorem mould_Pad.eq : absFn tt 20 mould_Pad.ins mould_Pad.outs mould_Pad.code mould_Pad.ann = mould_Pad := by
  funext a
  kernel_rfl
theorem mould_Pad.ok : mould_Pad.ann.ok Tryz.prog 0 20 :=
  ann_ok (by kernel_rfl) (by kernel_rfl) (show ∀ c ∈ ([mould_fits.c, strings_Repeat.c] : List Callee'), c.ok Tryz.prog from cs_cons mould_fits.sound (cs_cons strings_Repeat.sound cs_nil))
    (show ∀ c ∈ ([mould_fits.c, strings_Repeat.c] : List Callee'), FunQuiet c.F from cs_cons mould_fits.quiet (cs_cons strings_Repeat.quiet cs_nil))
theorem mould_Pad.sound : mould_Pad.c.ok Tryz.prog := by
  refine ⟨?_, Tryz.f109, mould_Pad.code, Tryz.func109, rfl, by decide⟩
  have h := fn_sound tt_ok mix_ok (x := mould_Pad.ann) (ins := mould_Pad.ins) (outs := mould_Pad.outs) (N := 20) Tryz.func109 (c := mould_Pad.code) rfl rfl (by kernel_rfl) (by kernel_rfl) mould_Pad.ok (by decide)
  rw [mould_Pad.eq] at h
  exact h

/-! ### wainwright/slab.whole: function 84 -/
noncomputable def slab_whole : List UInt8 → Option (List UInt8) := fun s0 =>
  if 0 ≤ (if 128 < (s0.length : Int) then 128 else (s0.length : Int)) ∧ (if 128 < (s0.length : Int) then 128 else (s0.length : Int)) ≤ (s0.length : Int) then
    (mould_Pad (s0.take ((if 128 < (s0.length : Int) then 128 else (s0.length : Int))).toNat, 128)).bind fun (r11, r11_2) =>
      some r11
  else none

def slab_whole.ins : Spec := ⟨15, 0, [], [0], (.cons (.v .str) .nil)⟩
def slab_whole.outs : List Spec := [⟨15, 0, [], [2], (.cons (.v .str) .nil)⟩]
noncomputable def slab_whole.c : Callee' := ⟨84, mkFits slab_whole.ins slab_whole.outs, mkFun slab_whole.ins slab_whole.outs slab_whole, mkFun_nat _ _ _⟩
theorem slab_whole.quiet : FunQuiet slab_whole.c.F := mkFun_quiet rfl rfl
noncomputable def slab_whole.ann : Ann :=
  (.seq (.reg []) (.seq (.reg [.std, .std, .std, .std, .std, .callq [mould_Pad.c]]) (.seq (.reg []) .std)))
noncomputable def slab_whole.code : Code := match Tryz.f84.body with | some c => c | none => .skip
theorem slab_whole.eq : absFn tt 15 slab_whole.ins slab_whole.outs slab_whole.code slab_whole.ann = slab_whole := by
  funext a
  kernel_rfl
theorem slab_whole.ok : slab_whole.ann.ok Tryz.prog 0 15 :=
  ann_ok (by kernel_rfl) (by kernel_rfl) (show ∀ c ∈ ([mould_Pad.c] : List Callee'), c.ok Tryz.prog from cs_cons mould_Pad.sound cs_nil)
    (show ∀ c ∈ ([mould_Pad.c] : List Callee'), FunQuiet c.F from cs_cons mould_Pad.quiet cs_nil)
theorem slab_whole.sound : slab_whole.c.ok Tryz.prog := by
  refine ⟨?_, Tryz.f84, slab_whole.code, Tryz.func84, rfl, by decide⟩
  have h := fn_sound tt_ok mix_ok (x := slab_whole.ann) (ins := slab_whole.ins) (outs := slab_whole.outs) (N := 15) Tryz.func84 (c := slab_whole.code) rfl rfl (by kernel_rfl) (by kernel_rfl) slab_whole.ok (by decide)
  rw [slab_whole.eq] at h
  exact h

/-! ### wainwright/slab.Load: function 32 -/
noncomputable def slab_Load.l1 : (((Int × Int) × List (List UInt8) × List (Int × List UInt8)) × List (List UInt8) × Int × Int) → Option ((((Int × Int) × List (List UInt8) × List (Int × List UInt8)) × List (List UInt8) × Int × Int) ⊕ ((Int × Int) × List (List UInt8) × List (Int × List UInt8))) := fun (((s3c, s3d), o1, o2), t13, t14, t15) =>
  if decide (t15 < t14) = true then
    if 0 ≤ t15 ∧ t15 < (t13.length : Int) then
      (slab_whole (t13.getD t15.toNat [])).bind fun r25 =>
        if roomOk (o1.length + (([r25] : List (List UInt8))).length) 16 then
          some (.inl ((((s3c, s3d), o1 ++ (([r25] : List (List UInt8))), o2), t13, t14, IntKind.i64.wrap (t15 + 1))))
        else none
    else none
  else
    some (.inr ((((s3c, s3d), o1, o2))))

noncomputable def slab_Load : List (List UInt8) → Option ((Int × Int) × List (List UInt8) × List (Int × List UInt8)) := fun image0 =>
  if 0 ≤ (if 1000 < (image0.length : Int) then 1000 else (image0.length : Int)) ∧ (if 1000 < (image0.length : Int) then 1000 else (image0.length : Int)) ≤ (image0.length : Int) then
    (loopO slab_Load.l1 ((((0, (-1)), [], ([] : List (Int × List UInt8))), image0.take ((if 1000 < (image0.length : Int) then 1000 else (image0.length : Int))).toNat, ((image0.take ((if 1000 < (image0.length : Int) then 1000 else (image0.length : Int))).toNat).length : Int), 0))).bind fun ((s3c, s3d), o1, o2) =>
      some ((((s3c, s3d), o1, o2)))
  else none

def slab_Load.ins : Spec := ⟨32, 0, [], [0], (.cons (.v (.sl .str)) .nil)⟩
def slab_Load.outs : List Spec := [⟨32, 0, [.box (.cons (.ref 1) (.cons (.ref 2) (.cons (.v I) (.cons (.v I) .nil)))), .arr .str, .map I .str], [2], (.cons (.ref 0) .nil)⟩]
noncomputable def slab_Load.c : Callee' := ⟨32, mkFits slab_Load.ins slab_Load.outs, mkFun slab_Load.ins slab_Load.outs slab_Load, mkFun_nat _ _ _⟩
noncomputable def slab_Load.ann : Ann :=
  (.seq (.reg []) (.seq (.reg [.mp I .str]) (.seq (.seq (.reg []) (.block (.loop ⟨32, 0, [.box (.cons (.ref 1) (.cons (.ref 2) (.cons (.v I) (.cons (.v I) .nil)))), .arr .str, .map I .str], [3, 13, 14, 15], (.cons (.ref 0) (.cons (.v (.sl .str)) (.cons (.v I) (.cons (.v I) .nil))))⟩ [(.exit 0, ⟨32, 0, [.box (.cons (.ref 1) (.cons (.ref 2) (.cons (.v I) (.cons (.v I) .nil)))), .arr .str, .map I .str], [3], (.cons (.ref 0) .nil)⟩)]
  (.seq (.reg []) (.seq (.cond .std .std) (.seq (.block (.seq (.reg []) (.drw [.std, .std, .std, .std, .std, .std, .callq [slab_whole.c], .inl .str, .obj .str]))) (.reg []))))))) (.seq (.reg []) .std))))
noncomputable def slab_Load.code : Code := match Tryz.f32.body with | some c => c | none => .skip
theorem slab_Load.eq : absFn tt 32 slab_Load.ins slab_Load.outs slab_Load.code slab_Load.ann = slab_Load := by
  funext a
  kernel_rfl
theorem slab_Load.ok : slab_Load.ann.ok Tryz.prog 0 32 :=
  ann_ok (by kernel_rfl) (by kernel_rfl) (show ∀ c ∈ ([slab_whole.c] : List Callee'), c.ok Tryz.prog from cs_cons slab_whole.sound cs_nil)
    (show ∀ c ∈ ([slab_whole.c] : List Callee'), FunQuiet c.F from cs_cons slab_whole.quiet cs_nil)
theorem slab_Load.sound : slab_Load.c.ok Tryz.prog := by
  refine ⟨?_, Tryz.f32, slab_Load.code, Tryz.func32, rfl, by decide⟩
  have h := fn_sound tt_ok mix_ok (x := slab_Load.ann) (ins := slab_Load.ins) (outs := slab_Load.outs) (N := 32) Tryz.func32 (c := slab_Load.code) rfl rfl (by kernel_rfl) (by kernel_rfl) slab_Load.ok (by decide)
  rw [slab_Load.eq] at h
  exact h

/-! ### wainwright/slab.New: function 23 -/
noncomputable def slab_New : Int → Option ((Int × Int) × List (List UInt8) × List (Int × List UInt8)) := fun n0 =>
  if 0 ≤ (if 1000 < (if 0 > n0 then 0 else n0) then 1000 else (if 0 > n0 then 0 else n0)) ∧ (if 1000 < (if 0 > n0 then 0 else n0) then 1000 else (if 0 > n0 then 0 else n0)) ≤ (if 1000 < (if 0 > n0 then 0 else n0) then 1000 else (if 0 > n0 then 0 else n0)) ∧ (if 1000 < (if 0 > n0 then 0 else n0) then 1000 else (if 0 > n0 then 0 else n0)) * (16 : Nat) ≤ 140737488355328 ∧ (if 1000 < (if 0 > n0 then 0 else n0) then 1000 else (if 0 > n0 then 0 else n0)) ≤ 9223372036854775807 then
    (slab_Load (List.replicate ((if 1000 < (if 0 > n0 then 0 else n0) then 1000 else (if 0 > n0 then 0 else n0))).toNat ([] : List UInt8))).bind fun ((r7, r7_2), r7_3, r7_4) =>
      some ((((r7, r7_2), r7_3, r7_4)))
  else none

def slab_New.ins : Spec := ⟨8, 0, [], [0], (.cons (.v I) .nil)⟩
def slab_New.outs : List Spec := [⟨8, 0, [.box (.cons (.ref 1) (.cons (.ref 2) (.cons (.v I) (.cons (.v I) .nil)))), .arr .str, .map I .str], [2], (.cons (.ref 0) .nil)⟩]
noncomputable def slab_New.c : Callee' := ⟨23, mkFits slab_New.ins slab_New.outs, mkFun slab_New.ins slab_New.outs slab_New, mkFun_nat _ _ _⟩
noncomputable def slab_New.ann : Ann :=
  (.seq (.reg []) (.seq (.reg [.std, .std, .std, .obj .str, .call [slab_Load.c]]) .std))
noncomputable def slab_New.code : Code := match Tryz.f23.body with | some c => c | none => .skip
theorem slab_New.eq : absFn tt 8 slab_New.ins slab_New.outs slab_New.code slab_New.ann = slab_New := by
  funext a
  kernel_rfl
theorem slab_New.ok : slab_New.ann.ok Tryz.prog 0 8 :=
  ann_ok (by kernel_rfl) (by kernel_rfl) (show ∀ c ∈ ([slab_Load.c] : List Callee'), c.ok Tryz.prog from cs_cons slab_Load.sound cs_nil)
    (show ∀ c ∈ ([] : List Callee'), FunQuiet c.F from cs_nil)
theorem slab_New.sound : slab_New.c.ok Tryz.prog := by
  refine ⟨?_, Tryz.f23, slab_New.code, Tryz.func23, rfl, by decide⟩
  have h := fn_sound tt_ok mix_ok (x := slab_New.ann) (ins := slab_New.ins) (outs := slab_New.outs) (N := 8) Tryz.func23 (c := slab_New.code) rfl rfl (by kernel_rfl) (by kernel_rfl) slab_New.ok (by decide)
  rw [slab_New.eq] at h
  exact h

/-! ### (*wainwright/slab.Slab).Size: function 67 -/
noncomputable def slab_Slab_Size : (List (List UInt8) × (List (Int × List UInt8)) × Int × Int) → Option (Int) := fun s0 =>
  some (((s0.1.length : Int)))

def slab_Slab_Size.ins : Spec := ⟨10, 0, [], [0], (.cons (.v (.ptr (.pair (.sl .str) (.pair (.map I .str) (.pair I I))))) .nil)⟩
def slab_Slab_Size.outs : List Spec := [⟨10, 0, [], [2], (.cons (.v I) .nil)⟩]
noncomputable def slab_Slab_Size.c : Callee' := ⟨67, mkFits slab_Slab_Size.ins slab_Slab_Size.outs, mkFun slab_Slab_Size.ins slab_Slab_Size.outs slab_Slab_Size, mkFun_nat _ _ _⟩
theorem slab_Slab_Size.quiet : FunQuiet slab_Slab_Size.c.F := mkFun_quiet rfl rfl
noncomputable def slab_Slab_Size.ann : Ann :=
  (.seq (.reg []) (.seq (.seq (.reg [.std, .obj .bool]) (.cond (.seq (.reg []) .std) .std)) (.seq (.reg []) .std)))
noncomputable def slab_Slab_Size.code : Code := match Tryz.f67.body with | some c => c | none => .skip
theorem slab_Slab_Size.eq : absFn tt 10 slab_Slab_Size.ins slab_Slab_Size.outs slab_Slab_Size.code slab_Slab_Size.ann = slab_Slab_Size := by
  funext a
  kernel_rfl
theorem slab_Slab_Size.ok : slab_Slab_Size.ann.ok Tryz.prog 0 10 :=
  ann_ok (by kernel_rfl) (by kernel_rfl) (show ∀ c ∈ ([] : List Callee'), c.ok Tryz.prog from cs_nil)
    (show ∀ c ∈ ([] : List Callee'), FunQuiet c.F from cs_nil)
theorem slab_Slab_Size.sound : slab_Slab_Size.c.ok Tryz.prog := by
  refine ⟨?_, Tryz.f67, slab_Slab_Size.code, Tryz.func67, rfl, by decide⟩
  have h := fn_sound tt_ok mix_ok (x := slab_Slab_Size.ann) (ins := slab_Slab_Size.ins) (outs := slab_Slab_Size.outs) (N := 10) Tryz.func67 (c := slab_Slab_Size.code) rfl rfl (by kernel_rfl) (by kernel_rfl) slab_Slab_Size.ok (by decide)
  rw [slab_Slab_Size.eq] at h
  exact h

/-! ### (*wainwright/slab.Slab).there: function 129 -/
noncomputable def slab_Slab_there : ((List (List UInt8) × (List (Int × List UInt8)) × Int × Int) × Int) → Option (Bool) := fun (s0, i1) =>
  if decide (i1 ≥ 0) = true then
    some ((decide (i1 < (s0.1.length : Int))))
  else
    some false

def slab_Slab_there.ins : Spec := ⟨20, 0, [], [0, 1], (.cons (.v (.ptr (.pair (.sl .str) (.pair (.map I .str) (.pair I I))))) (.cons (.v I) .nil))⟩
def slab_Slab_there.outs : List Spec := [⟨20, 0, [], [4], (.cons (.v .bool) .nil)⟩]
noncomputable def slab_Slab_there.c : Callee' := ⟨129, mkFits slab_Slab_there.ins slab_Slab_there.outs, mkFun slab_Slab_there.ins slab_Slab_there.outs slab_Slab_there, mkFun_nat _ _ _⟩
theorem slab_Slab_there.quiet : FunQuiet slab_Slab_there.c.F := mkFun_quiet rfl rfl
noncomputable def slab_Slab_there.ann : Ann :=
  (.seq (.reg []) (.seq (.reg [.std, .obj .bool]) .std))
noncomputable def slab_Slab_there.code : Code := match Tryz.f129.body with | some c => c | none => .skip
theorem slab_Slab_there.eq : absFn tt 20 slab_Slab_there.ins slab_Slab_there.outs slab_Slab_there.code slab_Slab_there.ann = slab_Slab_there := by
  funext a
  kernel_rfl
theorem slab_Slab_there.ok : slab_Slab_there.ann.ok Tryz.prog 0 20 :=
  ann_ok (by kernel_rfl) (by kernel_rfl) (show ∀ c ∈ ([] : List Callee'), c.ok Tryz.prog from cs_nil)
    (show ∀ c ∈ ([] : List Callee'), FunQuiet c.F from cs_nil)
theorem slab_Slab_there.sound : slab_Slab_there.c.ok Tryz.prog := by
  refine ⟨?_, Tryz.f129, slab_Slab_there.code, Tryz.func129, rfl, by decide⟩
  have h := fn_sound tt_ok mix_ok (x := slab_Slab_there.ann) (ins := slab_Slab_there.ins) (outs := slab_Slab_there.outs) (N := 20) Tryz.func129 (c := slab_Slab_there.code) rfl rfl (by kernel_rfl) (by kernel_rfl) slab_Slab_there.ok (by decide)
  rw [slab_Slab_there.eq] at h
  exact h

/-! ### (*wainwright/slab.Slab).Read: function 70 -/
noncomputable def slab_Slab_Read : ((List (List UInt8) × (List (Int × List UInt8)) × Int × Int) × Int) → Option (List UInt8) := fun (s0, i1) =>
  (slab_Slab_there (s0, i1)).bind fun r9 =>
    if (!r9) = true then
      some []
    else
      if (mget (K := I) (V := .str) s0.2.1 i1).isSome = true then
        some ((((mget (K := I) (V := .str) s0.2.1 i1).getD [])))
      else
        if 0 ≤ i1 ∧ i1 < (s0.1.length : Int) then
          some ((s0.1.getD i1.toNat []))
        else none

def slab_Slab_Read.ins : Spec := ⟨29, 0, [], [0, 1], (.cons (.v (.ptr (.pair (.sl .str) (.pair (.map I .str) (.pair I I))))) (.cons (.v I) .nil))⟩
def slab_Slab_Read.outs : List Spec := [⟨29, 0, [], [4], (.cons (.v .str) .nil)⟩]
noncomputable def slab_Slab_Read.c : Callee' := ⟨70, mkFits slab_Slab_Read.ins slab_Slab_Read.outs, mkFun slab_Slab_Read.ins slab_Slab_Read.outs slab_Slab_Read, mkFun_nat _ _ _⟩
theorem slab_Slab_Read.quiet : FunQuiet slab_Slab_Read.c.F := mkFun_quiet rfl rfl
noncomputable def slab_Slab_Read.ann : Ann :=
  (.seq (.reg []) (.seq (.seq (.reg [.std, .std, .callq [slab_Slab_there.c]]) (.cond (.seq (.reg []) .std) .std)) (.seq (.seq (.reg []) (.seq (.reg []) (.cond (.seq (.reg []) .std) .std))) (.seq (.reg []) .std))))
noncomputable def slab_Slab_Read.code : Code := match Tryz.f70.body with | some c => c | none => .skip
theorem slab_Slab_Read.eq : absFn tt 29 slab_Slab_Read.ins slab_Slab_Read.outs slab_Slab_Read.code slab_Slab_Read.ann = slab_Slab_Read := by
  funext a
  kernel_rfl
theorem slab_Slab_Read.ok : slab_Slab_Read.ann.ok Tryz.prog 0 29 :=
  ann_ok (by kernel_rfl) (by kernel_rfl) (show ∀ c ∈ ([slab_Slab_there.c] : List Callee'), c.ok Tryz.prog from cs_cons slab_Slab_there.sound cs_nil)
    (show ∀ c ∈ ([slab_Slab_there.c] : List Callee'), FunQuiet c.F from cs_cons slab_Slab_there.quiet cs_nil)
theorem slab_Slab_Read.sound : slab_Slab_Read.c.ok Tryz.prog := by
  refine ⟨?_, Tryz.f70, slab_Slab_Read.code, Tryz.func70, rfl, by decide⟩
  have h := fn_sound tt_ok mix_ok (x := slab_Slab_Read.ann) (ins := slab_Slab_Read.ins) (outs := slab_Slab_Read.outs) (N := 29) Tryz.func70 (c := slab_Slab_Read.code) rfl rfl (by kernel_rfl) (by kernel_rfl) slab_Slab_Read.ok (by decide)
  rw [slab_Slab_Read.eq] at h
  exact h

/-! ### math/bits.Mul64: function 197 -/
noncomputable def bits_Mul64 : (Int × Int) → Option (Int × Int) := fun (x0, y1) =>
  some (((IntKind.u64.wrap ((IntKind.u64.wrap ((IntKind.u64.wrap ((Int.fdiv x0 (2 ^ 32)) * (Int.fdiv y1 (2 ^ 32)))) + (Int.fdiv (IntKind.u64.wrap ((IntKind.u64.wrap ((Int.fdiv x0 (2 ^ 32)) * (bitsOp .and .u64 y1 4294967295))) + (Int.fdiv (IntKind.u64.wrap ((bitsOp .and .u64 x0 4294967295) * (bitsOp .and .u64 y1 4294967295))) (2 ^ 32)))) (2 ^ 32)))) + (Int.fdiv (IntKind.u64.wrap ((bitsOp .and .u64 (IntKind.u64.wrap ((IntKind.u64.wrap ((Int.fdiv x0 (2 ^ 32)) * (bitsOp .and .u64 y1 4294967295))) + (Int.fdiv (IntKind.u64.wrap ((bitsOp .and .u64 x0 4294967295) * (bitsOp .and .u64 y1 4294967295))) (2 ^ 32)))) 4294967295) + (IntKind.u64.wrap ((bitsOp .and .u64 x0 4294967295) * (Int.fdiv y1 (2 ^ 32)))))) (2 ^ 32))), IntKind.u64.wrap (x0 * y1))))

def bits_Mul64.ins : Spec := ⟨51, 0, [], [0, 1], (.cons (.v (.int .u64)) (.cons (.v (.int .u64)) .nil))⟩
def bits_Mul64.outs : List Spec := [⟨51, 0, [], [4, 5], (.cons (.v (.int .u64)) (.cons (.v (.int .u64)) .nil))⟩]
noncomputable def bits_Mul64.c : Callee' := ⟨197, mkFits bits_Mul64.ins bits_Mul64.outs, mkFun bits_Mul64.ins bits_Mul64.outs bits_Mul64, mkFun_nat _ _ _⟩
theorem bits_Mul64.quiet : FunQuiet bits_Mul64.c.F := mkFun_quiet rfl rfl
noncomputable def bits_Mul64.ann : Ann :=
  (.seq (.reg []) (.seq (.reg []) (.seq (.reg []) (.seq (.reg []) (.seq (.reg []) (.seq (.reg []) (.seq (.reg []) (.seq (.reg []) (.seq (.reg []) (.seq (.reg []) (.seq (.reg []) (.seq (.reg []) .std))))))))))))
noncomputable def bits_Mul64.code : Code := match Tryz.f197.body with | some c => c | none => .skip
theorem bits_Mul64.eq : absFn tt 51 bits_Mul64.ins bits_Mul64.outs bits_Mul64.code bits_Mul64.ann = bits_Mul64 := by
  funext a
  kernel_rfl
theorem bits_Mul64.ok : bits_Mul64.ann.ok Tryz.prog 0 51 :=
  ann_ok (by kernel_rfl) (by kernel_rfl) (show ∀ c ∈ ([] : List Callee'), c.ok Tryz.prog from cs_nil)
    (show ∀ c ∈ ([] : List Callee'), FunQuiet c.F from cs_nil)
theorem bits_Mul64.sound : bits_Mul64.c.ok Tryz.prog := by
  refine ⟨?_, Tryz.f197, bits_Mul64.code, Tryz.func197, rfl, by decide⟩
  have h := fn_sound tt_ok mix_ok (x := bits_Mul64.ann) (ins := bits_Mul64.ins) (outs := bits_Mul64.outs) (N := 51) Tryz.func197 (c := bits_Mul64.code) rfl rfl (by kernel_rfl) (by kernel_rfl) bits_Mul64.ok (by decide)
  rw [bits_Mul64.eq] at h
  exact h

/-! ### math/bits.Mul: function 163 -/
noncomputable def bits_Mul : (Int × Int) → Option (Int × Int) := fun (x0, y1) =>
  (bits_Mul64 (x0, y1)).bind fun (r25, r25_2) =>
    some (((r25, r25_2)))

def bits_Mul.ins : Spec := ⟨30, 0, [], [0, 1], (.cons (.v (.int .u64)) (.cons (.v (.int .u64)) .nil))⟩
def bits_Mul.outs : List Spec := [⟨30, 0, [], [4, 5], (.cons (.v (.int .u64)) (.cons (.v (.int .u64)) .nil))⟩]
noncomputable def bits_Mul.c : Callee' := ⟨163, mkFits bits_Mul.ins bits_Mul.outs, mkFun bits_Mul.ins bits_Mul.outs bits_Mul, mkFun_nat _ _ _⟩
theorem bits_Mul.quiet : FunQuiet bits_Mul.c.F := mkFun_quiet rfl rfl
noncomputable def bits_Mul.ann : Ann :=
  (.seq (.reg []) (.seq (.cond (.seq (.reg []) (.seq (.reg []) .std)) .std) (.seq (.reg [.std, .std, .callq [bits_Mul64.c]]) (.seq (.reg []) .std))))
noncomputable def bits_Mul.code : Code := match Tryz.f163.body with | some c => c | none => .skip
theorem bits_Mul.eq : absFn tt 30 bits_Mul.ins bits_Mul.outs bits_Mul.code bits_Mul.ann = bits_Mul := by
  funext a
  kernel_rfl
theorem bits_Mul.ok : bits_Mul.ann.ok Tryz.prog 0 30 :=
  ann_ok (by kernel_rfl) (by kernel_rfl) (show ∀ c ∈ ([bits_Mul64.c] : List Callee'), c.ok Tryz.prog from cs_cons bits_Mul64.sound cs_nil)
    (show ∀ c ∈ ([bits_Mul64.c] : List Callee'), FunQuiet c.F from cs_cons bits_Mul64.quiet cs_nil)
theorem bits_Mul.sound : bits_Mul.c.ok Tryz.prog := by
  refine ⟨?_, Tryz.f163, bits_Mul.code, Tryz.func163, rfl, by decide⟩
  have h := fn_sound tt_ok mix_ok (x := bits_Mul.ann) (ins := bits_Mul.ins) (outs := bits_Mul.outs) (N := 30) Tryz.func163 (c := bits_Mul.code) rfl rfl (by kernel_rfl) (by kernel_rfl) bits_Mul.ok (by decide)
  rw [bits_Mul.eq] at h
  exact h

/-! ### slices.Repeat[[]int,int]: function 122 -/
noncomputable def slices_Repeat_int_int.l1 : (List Int × Int) → Option ((List Int × Int) ⊕ (List Int)) := fun (newslice7, n8) =>
  if decide (n8 < (newslice7.length : Int)) = true then
    if 0 ≤ n8 ∧ n8 ≤ (newslice7.length : Int) then
      if 0 ≤ n8 ∧ n8 ≤ (newslice7.length : Int) then
        some (.inl ((copyRow newslice7 (((newslice7).drop 0).take ((n8 - 0).toNat)) n8.toNat (((newslice7.length : Int) - n8).toNat), IntKind.i64.wrap (n8 + ((min (((newslice7.length : Int) - n8).toNat) ((((newslice7).drop 0).take ((n8 - 0).toNat)).length) : Nat) : Int)))))
      else none
    else none
  else
    some (.inr newslice7)

noncomputable def slices_Repeat_int_int : (List Int × Int) → Option (List Int) := fun (x0, count1) =>
  if decide (count1 < 0) = true then none else
  (bits_Mul (IntKind.u64.wrap ((x0.length : Int)), IntKind.u64.wrap (count1))).bind fun (r18, r18_2) =>
    if decide (r18 > 0) = false then
      if decide (r18_2 > 9223372036854775807) = true then none else
      if 0 ≤ IntKind.i64.wrap (r18_2) ∧ IntKind.i64.wrap (r18_2) ≤ IntKind.i64.wrap (r18_2) ∧ IntKind.i64.wrap (r18_2) * (8 : Nat) ≤ 140737488355328 ∧ IntKind.i64.wrap (r18_2) ≤ 9223372036854775807 then
        (loopO slices_Repeat_int_int.l1 ((copyRow (List.replicate (IntKind.i64.wrap (r18_2)).toNat (0 : Int)) x0 0 ((List.replicate (IntKind.i64.wrap (r18_2)).toNat (0 : Int)).length), ((min ((List.replicate (IntKind.i64.wrap (r18_2)).toNat (0 : Int)).length) x0.length : Nat) : Int)))).bind fun newslice7 =>
          some newslice7
      else none
    else none

def slices_Repeat_int_int.ins : Spec := ⟨48, 0, [], [0, 1], (.cons (.v (.sl I)) (.cons (.v I) .nil))⟩
def slices_Repeat_int_int.outs : List Spec := [⟨48, 0, [], [4], (.cons (.v (.sl I)) .nil)⟩]
noncomputable def slices_Repeat_int_int.c : Callee' := ⟨122, mkFits slices_Repeat_int_int.ins slices_Repeat_int_int.outs, mkFun slices_Repeat_int_int.ins slices_Repeat_int_int.outs slices_Repeat_int_int, mkFun_nat _ _ _⟩
theorem slices_Repeat_int_int.quiet : FunQuiet slices_Repeat_int_int.c.F := mkFun_quiet rfl rfl
noncomputable def slices_Repeat_int_int.ann : Ann :=
  (.seq (.reg []) (.seq (.seq (.reg []) (.cond (.reg []) .std)) (.seq (.reg [.std, .std, .std, .std, .std, .callq [bits_Mul.c]]) (.seq (.seq (.reg []) (.cond (.reg []) .std)) (.seq (.reg [.std, .std, .obj I]) (.seq (.reg [.std, .std, .obj I]) (.seq (.block (.loop ⟨48, 0, [.arr I], [7, 8], (.cons (.ref 0) (.cons (.v I) .nil))⟩ [(.exit 0, ⟨48, 0, [.arr I], [7], (.cons (.ref 0) .nil)⟩)]
  (.seq (.seq (.reg []) (.cond .std .std)) (.block (.drw [.std, .std, .std, .std, .std, .std, .std, .obj I]))))) (.seq (.reg []) .std))))))))
noncomputable def slices_Repeat_int_int.code : Code := match Tryz.f122.body with | some c => c | none => .skip
theorem slices_Repeat_int_int.eq : absFn tt 48 slices_Repeat_int_int.ins slices_Repeat_int_int.outs slices_Repeat_int_int.code slices_Repeat_int_int.ann = slices_Repeat_int_int := by
  funext a
  kernel_rfl
theorem slices_Repeat_int_int.ok : slices_Repeat_int_int.ann.ok Tryz.prog 0 48 :=
  ann_ok (by kernel_rfl) (by kernel_rfl) (show ∀ c ∈ ([bits_Mul.c] : List Callee'), c.ok Tryz.prog from cs_cons bits_Mul.sound cs_nil)
    (show ∀ c ∈ ([bits_Mul.c] : List Callee'), FunQuiet c.F from cs_cons bits_Mul.quiet cs_nil)
theorem slices_Repeat_int_int.sound : slices_Repeat_int_int.c.ok Tryz.prog := by
  refine ⟨?_, Tryz.f122, slices_Repeat_int_int.code, Tryz.func122, rfl, by decide⟩
  have h := fn_sound tt_ok mix_ok (x := slices_Repeat_int_int.ann) (ins := slices_Repeat_int_int.ins) (outs := slices_Repeat_int_int.outs) (N := 48) Tryz.func122 (c := slices_Repeat_int_int.code) rfl rfl (by kernel_rfl) (by kernel_rfl) slices_Repeat_int_int.ok (by decide)
  rw [slices_Repeat_int_int.eq] at h
  exact h

/-! ### wainwright/mould.Size: function 125 -/
noncomputable def mould_Size.l1 : (Int × List Int × Int × Int) → Option ((Int × List Int × Int × Int) ⊕ (Int ⊕ Int)) := fun (n3, t6, t7, t8) =>
  if decide (t8 < t7) = true then
    if 0 ≤ t8 ∧ t8 < (t6.length : Int) then
      if (t6.getD t8.toNat 0 == 1) = true then
        some (.inl ((IntKind.i64.wrap (n3 + (t6.getD t8.toNat 0)), t6, t7, IntKind.i64.wrap (t8 + 1))))
      else
        if (t6.getD t8.toNat 0 == 2) = true then
          some (.inl ((IntKind.i64.wrap (n3 + (t6.getD t8.toNat 0)), t6, t7, IntKind.i64.wrap (t8 + 1))))
        else
          if (t6.getD t8.toNat 0 == 4) = true then
            some (.inl ((IntKind.i64.wrap (n3 + (t6.getD t8.toNat 0)), t6, t7, IntKind.i64.wrap (t8 + 1))))
          else
            some (.inr (.inr (-1)))
    else none
  else
    some (.inr (.inl n3))

noncomputable def mould_Size : List Int → Option (Int) := fun widths0 =>
  (loopO mould_Size.l1 ((0, widths0, (widths0.length : Int), 0))).bind fun d => match d with
  | .inl n3 =>
    some n3
  | .inr t2 =>
    some t2

def mould_Size.ins : Spec := ⟨22, 0, [], [0], (.cons (.v (.sl I)) .nil)⟩
def mould_Size.outs : List Spec := [⟨22, 0, [], [2], (.cons (.v I) .nil)⟩]
noncomputable def mould_Size.c : Callee' := ⟨125, mkFits mould_Size.ins mould_Size.outs, mkFun mould_Size.ins mould_Size.outs mould_Size, mkFun_nat _ _ _⟩
theorem mould_Size.quiet : FunQuiet mould_Size.c.F := mkFun_quiet rfl rfl
noncomputable def mould_Size.ann : Ann :=
  (.seq (.reg []) (.seq (.reg []) (.seq (.seq (.reg []) (.block (.loop ⟨22, 0, [], [3, 6, 7, 8], (.cons (.v I) (.cons (.v (.sl I)) (.cons (.v I) (.cons (.v I) .nil))))⟩ [(.exit 0, ⟨22, 0, [], [3], (.cons (.v I) .nil)⟩), (.ret, ⟨22, 0, [], [2], (.cons (.v I) .nil)⟩)]
  (.seq (.reg []) (.seq (.cond .std .std) (.seq (.block (.seq (.reg []) (.seq (.reg []) (.block (.seq (.seq (.reg []) (.cond .std (.seq (.reg []) (.cond .std (.reg []))))) (.cond (.reg []) (.seq (.reg []) .std))))))) (.reg []))))))) (.seq (.reg []) .std))))
noncomputable def mould_Size.code : Code := match Tryz.f125.body with | some c => c | none => .skip
theorem mould_Size.eq : absFn tt 22 mould_Size.ins mould_Size.outs mould_Size.code mould_Size.ann = mould_Size := by
  funext a
  kernel_rfl
theorem mould_Size.ok : mould_Size.ann.ok Tryz.prog 0 22 :=
  ann_ok (by kernel_rfl) (by kernel_rfl) (show ∀ c ∈ ([] : List Callee'), c.ok Tryz.prog from cs_nil)
    (show ∀ c ∈ ([] : List Callee'), FunQuiet c.F from cs_nil)
theorem mould_Size.sound : mould_Size.c.ok Tryz.prog := by
  refine ⟨?_, Tryz.f125, mould_Size.code, Tryz.func125, rfl, by decide⟩
  have h := fn_sound tt_ok mix_ok (x := mould_Size.ann) (ins := mould_Size.ins) (outs := mould_Size.outs) (N := 22) Tryz.func125 (c := mould_Size.code) rfl rfl (by kernel_rfl) (by kernel_rfl) mould_Size.ok (by decide)
  rw [mould_Size.eq] at h
  exact h

/-! ### wainwright/mould.Read: function 123 -/
noncomputable def mould_Read.l2 : (List Int × List UInt8 × Int × Int × List Int × Int × Int × List Int × Int × Int) → Option ((List Int × List UInt8 × Int × Int × List Int × Int × Int × List Int × Int × Int) ⊕ (List Int × List UInt8 × Int × List Int × Int × Int)) := fun (values7, s1, i8, w9, t25, t26, t27, t35, t36, t37) =>
  if decide (t37 < t36) = true then
    if 0 ≤ t37 ∧ t37 < (t35.length : Int) then
      if 0 ≤ i8 ∧ i8 < (values7.length : Int) then
        if 0 ≤ IntKind.i64.wrap (8 * t37) then
          if 0 ≤ i8 ∧ i8 < (values7.length : Int) then
            some (.inl ((values7.set i8.toNat (bitsOp .or .i64 (values7.getD i8.toNat 0) (IntKind.i64.wrap (IntKind.i64.wrap (t35.getD t37.toNat 0) * 2 ^ (min (IntKind.i64.wrap (8 * t37)).toNat 64)))), s1, i8, w9, t25, t26, t27, t35, t36, IntKind.i64.wrap (t37 + 1))))
          else none
        else none
      else none
    else none
  else
    some (.inr (((values7, s1, w9, t25, t26, t27))))

noncomputable def mould_Read.l1 : (List Int × List UInt8 × List Int × Int × Int) → Option ((List Int × List UInt8 × List Int × Int × Int) ⊕ (List Int)) := fun (values7, s1, t25, t26, t27) =>
  if decide (t27 < t26) = true then
    if 0 ≤ t27 ∧ t27 < (t25.length : Int) then
      if 0 ≤ t25.getD t27.toNat 0 ∧ t25.getD t27.toNat 0 ≤ (s1.length : Int) then
        (loopO mould_Read.l2 ((values7, s1, t27, t25.getD t27.toNat 0, t25, t26, t27, (s1.take (t25.getD t27.toNat 0).toNat).map fun b => (b.toNat : Int), (((s1.take (t25.getD t27.toNat 0).toNat).map fun b => (b.toNat : Int)).length : Int), 0))).bind fun (values7, s1, w9, t25, t26, t27) =>
          if 0 ≤ w9 ∧ w9 ≤ (s1.length : Int) then
            some (.inl ((values7, s1.drop w9.toNat, t25, t26, IntKind.i64.wrap (t27 + 1))))
          else none
      else none
    else none
  else
    some (.inr values7)

noncomputable def mould_Read : (List Int × List UInt8) → Option (List Int × Int) := fun (widths0, s1) =>
  (mould_Size widths0).bind fun r13 =>
    if decide (r13 < 0) = true then
      some (((([] : List Int), 1)))
    else
      if decide ((s1.length : Int) < r13) = true then
        some (((([] : List Int), 2)))
      else
        if 0 ≤ (widths0.length : Int) ∧ (widths0.length : Int) ≤ (widths0.length : Int) ∧ (widths0.length : Int) * (8 : Nat) ≤ 140737488355328 ∧ (widths0.length : Int) ≤ 9223372036854775807 then
          (loopO mould_Read.l1 ((List.replicate ((widths0.length : Int)).toNat (0 : Int), s1, widths0, (widths0.length : Int), 0))).bind fun values7 =>
            some (((values7, 0)))
        else none

def mould_Read.ins : Spec := ⟨59, 0, [], [0, 1], (.cons (.v (.sl I)) (.cons (.v .str) .nil))⟩
def mould_Read.outs : List Spec := [⟨59, 0, [], [4, 5], (.cons (.v (.sl I)) (.cons (.v I) .nil))⟩]
noncomputable def mould_Read.c : Callee' := ⟨123, mkFits mould_Read.ins mould_Read.outs, mkFun mould_Read.ins mould_Read.outs mould_Read, mkFun_nat _ _ _⟩
theorem mould_Read.quiet : FunQuiet mould_Read.c.F := mkFun_quiet rfl rfl
noncomputable def mould_Read.ann : Ann :=
  (.seq (.reg []) (.seq (.reg [.std, .callq [mould_Size.c]]) (.seq (.block (.seq (.reg []) (.cond (.seq (.reg []) .std) (.seq (.reg []) (.cond (.seq (.reg []) .std) .std))))) (.seq (.reg [.std, .std, .obj I]) (.seq (.seq (.reg []) (.block (.loop ⟨59, 0, [.arr I], [1, 7, 25, 26, 27], (.cons (.v .str) (.cons (.ref 0) (.cons (.v (.sl I)) (.cons (.v I) (.cons (.v I) .nil)))))⟩ [(.exit 1, ⟨59, 0, [.arr I], [7], (.cons (.ref 0) .nil)⟩)]
  (.seq (.reg []) (.seq (.cond .std .std) (.seq (.block (.seq (.reg []) (.seq (.seq (.reg [.std, .std, .std, .inl (.int .u8)]) (.block (.loop ⟨59, 0, [.arr I], [1, 7, 8, 9, 25, 26, 27, 35, 36, 37], (.cons (.v .str) (.cons (.ref 0) (.cons (.v I) (.cons (.v I) (.cons (.v (.sl I)) (.cons (.v I) (.cons (.v I) (.cons (.v (.sl (.int .u8))) (.cons (.v I) (.cons (.v I) .nil))))))))))⟩ [(.exit 3, ⟨59, 0, [.arr I], [1, 7, 9, 25, 26, 27], (.cons (.v .str) (.cons (.ref 0) (.cons (.v I) (.cons (.v (.sl I)) (.cons (.v I) (.cons (.v I) .nil))))))⟩)]
  (.seq (.reg []) (.seq (.cond .std .std) (.seq (.block (.seq (.reg []) (.drw [.std, .std, .std, .std, .std, .inl (.int .u8)]))) (.reg []))))))) (.reg [])))) (.reg []))))))) (.seq (.reg []) .std))))))
noncomputable def mould_Read.code : Code := match Tryz.f123.body with | some c => c | none => .skip
theorem mould_Read.eq : absFn tt 59 mould_Read.ins mould_Read.outs mould_Read.code mould_Read.ann = mould_Read := by
  funext a
  kernel_rfl
theorem mould_Read.ok : mould_Read.ann.ok Tryz.prog 0 59 :=
  ann_ok (by kernel_rfl) (by kernel_rfl) (show ∀ c ∈ ([mould_Size.c] : List Callee'), c.ok Tryz.prog from cs_cons mould_Size.sound cs_nil)
    (show ∀ c ∈ ([mould_Size.c] : List Callee'), FunQuiet c.F from cs_cons mould_Size.quiet cs_nil)
theorem mould_Read.sound : mould_Read.c.ok Tryz.prog := by
  refine ⟨?_, Tryz.f123, mould_Read.code, Tryz.func123, rfl, by decide⟩
  have h := fn_sound tt_ok mix_ok (x := mould_Read.ann) (ins := mould_Read.ins) (outs := mould_Read.outs) (N := 59) Tryz.func123 (c := mould_Read.code) rfl rfl (by kernel_rfl) (by kernel_rfl) mould_Read.ok (by decide)
  rw [mould_Read.eq] at h
  exact h

/-! ### strings.trimRightByte: function 165 -/
noncomputable def strings_trimRightByte.l1 : (List UInt8 × Int) → Option ((List UInt8 × Int) ⊕ (List UInt8)) := fun (s0, c1) =>
  if decide ((s0.length : Int) > 0) = true then
    if 0 ≤ IntKind.i64.wrap ((s0.length : Int) - 1) ∧ IntKind.i64.wrap ((s0.length : Int) - 1) < (s0.length : Int) then
      if (((s0.getD ((IntKind.i64.wrap ((s0.length : Int) - 1)).toNat) 0).toNat : Int) == c1) = true then
        if 0 ≤ IntKind.i64.wrap ((s0.length : Int) - 1) ∧ IntKind.i64.wrap ((s0.length : Int) - 1) ≤ (s0.length : Int) then
          some (.inl ((s0.take (IntKind.i64.wrap ((s0.length : Int) - 1)).toNat, c1)))
        else none
      else
        some (.inr s0)
    else none
  else
    some (.inr s0)

noncomputable def strings_trimRightByte : (List UInt8 × Int) → Option (List UInt8) := fun (s0, c1) =>
  (loopO strings_trimRightByte.l1 ((s0, c1))).bind fun s0 =>
    some s0

def strings_trimRightByte.ins : Spec := ⟨23, 0, [], [0, 1], (.cons (.v .str) (.cons (.v (.int .u8)) .nil))⟩
def strings_trimRightByte.outs : List Spec := [⟨23, 0, [], [4], (.cons (.v .str) .nil)⟩]
noncomputable def strings_trimRightByte.c : Callee' := ⟨165, mkFits strings_trimRightByte.ins strings_trimRightByte.outs, mkFun strings_trimRightByte.ins strings_trimRightByte.outs strings_trimRightByte, mkFun_nat _ _ _⟩
theorem strings_trimRightByte.quiet : FunQuiet strings_trimRightByte.c.F := mkFun_quiet rfl rfl
noncomputable def strings_trimRightByte.ann : Ann :=
  (.seq (.reg []) (.seq (.block (.loop ⟨23, 0, [], [0, 1], (.cons (.v .str) (.cons (.v (.int .u8)) .nil))⟩ [(.exit 0, ⟨23, 0, [], [0], (.cons (.v .str) .nil)⟩)]
  (.seq (.seq (.reg []) (.cond .std .std)) (.block (.reg []))))) (.seq (.reg []) .std)))
noncomputable def strings_trimRightByte.code : Code := match Tryz.f165.body with | some c => c | none => .skip
theorem strings_trimRightByte.eq : absFn tt 23 strings_trimRightByte.ins strings_trimRightByte.outs strings_trimRightByte.code strings_trimRightByte.ann = strings_trimRightByte := by
  funext a
  kernel_rfl
theorem strings_trimRightByte.ok : strings_trimRightByte.ann.ok Tryz.prog 0 23 :=
  ann_ok (by kernel_rfl) (by kernel_rfl) (show ∀ c ∈ ([] : List Callee'), c.ok Tryz.prog from cs_nil)
    (show ∀ c ∈ ([] : List Callee'), FunQuiet c.F from cs_nil)
theorem strings_trimRightByte.sound : strings_trimRightByte.c.ok Tryz.prog := by
  refine ⟨?_, Tryz.f165, strings_trimRightByte.code, Tryz.func165, rfl, by decide⟩
  have h := fn_sound tt_ok mix_ok (x := strings_trimRightByte.ann) (ins := strings_trimRightByte.ins) (outs := strings_trimRightByte.outs) (N := 23) Tryz.func165 (c := strings_trimRightByte.code) rfl rfl (by kernel_rfl) (by kernel_rfl) strings_trimRightByte.ok (by decide)
  rw [strings_trimRightByte.eq] at h
  exact h

/-! ### strings.trimLeftByte: function 164 -/
noncomputable def strings_trimLeftByte.l1 : (List UInt8 × Int) → Option ((List UInt8 × Int) ⊕ (List UInt8)) := fun (s0, c1) =>
  if decide ((s0.length : Int) > 0) = true then
    if 0 ≤ (0 : Int) ∧ (0 : Int) < (s0.length : Int) then
      if (((s0.getD 0 0).toNat : Int) == c1) = true then
        if 0 ≤ (1 : Int) ∧ (1 : Int) ≤ (s0.length : Int) then
          some (.inl ((s0.drop 1, c1)))
        else none
      else
        some (.inr s0)
    else none
  else
    some (.inr s0)

noncomputable def strings_trimLeftByte : (List UInt8 × Int) → Option (List UInt8) := fun (s0, c1) =>
  (loopO strings_trimLeftByte.l1 ((s0, c1))).bind fun s0 =>
    some s0

def strings_trimLeftByte.ins : Spec := ⟨17, 0, [], [0, 1], (.cons (.v .str) (.cons (.v (.int .u8)) .nil))⟩
def strings_trimLeftByte.outs : List Spec := [⟨17, 0, [], [4], (.cons (.v .str) .nil)⟩]
noncomputable def strings_trimLeftByte.c : Callee' := ⟨164, mkFits strings_trimLeftByte.ins strings_trimLeftByte.outs, mkFun strings_trimLeftByte.ins strings_trimLeftByte.outs strings_trimLeftByte, mkFun_nat _ _ _⟩
theorem strings_trimLeftByte.quiet : FunQuiet strings_trimLeftByte.c.F := mkFun_quiet rfl rfl
noncomputable def strings_trimLeftByte.ann : Ann :=
  (.seq (.reg []) (.seq (.block (.loop ⟨17, 0, [], [0, 1], (.cons (.v .str) (.cons (.v (.int .u8)) .nil))⟩ [(.exit 0, ⟨17, 0, [], [0], (.cons (.v .str) .nil)⟩)]
  (.seq (.seq (.reg []) (.cond .std .std)) (.block (.reg []))))) (.seq (.reg []) .std)))
noncomputable def strings_trimLeftByte.code : Code := match Tryz.f164.body with | some c => c | none => .skip
theorem strings_trimLeftByte.eq : absFn tt 17 strings_trimLeftByte.ins strings_trimLeftByte.outs strings_trimLeftByte.code strings_trimLeftByte.ann = strings_trimLeftByte := by
  funext a
  kernel_rfl
theorem strings_trimLeftByte.ok : strings_trimLeftByte.ann.ok Tryz.prog 0 17 :=
  ann_ok (by kernel_rfl) (by kernel_rfl) (show ∀ c ∈ ([] : List Callee'), c.ok Tryz.prog from cs_nil)
    (show ∀ c ∈ ([] : List Callee'), FunQuiet c.F from cs_nil)
theorem strings_trimLeftByte.sound : strings_trimLeftByte.c.ok Tryz.prog := by
  refine ⟨?_, Tryz.f164, strings_trimLeftByte.code, Tryz.func164, rfl, by decide⟩
  have h := fn_sound tt_ok mix_ok (x := strings_trimLeftByte.ann) (ins := strings_trimLeftByte.ins) (outs := strings_trimLeftByte.outs) (N := 17) Tryz.func164 (c := strings_trimLeftByte.code) rfl rfl (by kernel_rfl) (by kernel_rfl) strings_trimLeftByte.ok (by decide)
  rw [strings_trimLeftByte.eq] at h
  exact h

/-! ### strings.Trim: function 124 -/
noncomputable def strings_Trim : (List UInt8 × List UInt8) → Option (List UInt8) := fun (s0, cutset1) =>
  if (s0 == []) = false then
    if (cutset1 == []) = true then
      some s0
    else
      ((
        if ((cutset1.length : Int) == 1) = true then
          if 0 ≤ (0 : Int) ∧ (0 : Int) < (cutset1.length : Int) then
            some (((s0, cutset1, decide (((cutset1.getD 0 0).toNat : Int) < 128))))
          else none
        else
          some (((s0, cutset1, false)))) : Option (List UInt8 × List UInt8 × Bool)).bind fun (s0, cutset1, t21) =>
        if t21 = true then
          if 0 ≤ (0 : Int) ∧ (0 : Int) < (cutset1.length : Int) then
            (strings_trimRightByte (s0, ((cutset1.getD 0 0).toNat : Int))).bind fun r25 =>
              if 0 ≤ (0 : Int) ∧ (0 : Int) < (cutset1.length : Int) then
                (strings_trimLeftByte (r25, ((cutset1.getD 0 0).toNat : Int))).bind fun r28 =>
                  some r28
              else none
          else none
        else none
  else
    some s0

def strings_Trim.ins : Spec := ⟨43, 0, [], [0, 1], (.cons (.v .str) (.cons (.v .str) .nil))⟩
def strings_Trim.outs : List Spec := [⟨43, 0, [], [4], (.cons (.v .str) .nil)⟩]
noncomputable def strings_Trim.c : Callee' := ⟨124, mkFits strings_Trim.ins strings_Trim.outs, mkFun strings_Trim.ins strings_Trim.outs strings_Trim, mkFun_nat _ _ _⟩
theorem strings_Trim.quiet : FunQuiet strings_Trim.c.F := mkFun_quiet rfl rfl
noncomputable def strings_Trim.ann : Ann :=
  (.seq (.reg []) (.seq (.seq (.reg []) (.cond (.seq (.reg []) .std) .std)) (.seq (.join [(.norm, ⟨43, 0, [], [0, 1, 21], (.cons (.v .str) (.cons (.v .str) (.cons (.v .bool) .nil)))⟩)]
  (.reg []) (.cond (.seq (.drw [.std, .std, .std, .callq [strings_trimRightByte.c], .std, .std, .callq [strings_trimLeftByte.c]]) .std) .std)) (.seq (.seq (.reg []) (.seq (.reg []) (.cond (.seq (.reg []) .std) .std))) (.seq (.reg []) .std)))))
noncomputable def strings_Trim.code : Code := match Tryz.f124.body with | some c => c | none => .skip
theorem strings_Trim.eq : absFn tt 43 strings_Trim.ins strings_Trim.outs strings_Trim.code strings_Trim.ann = strings_Trim := by
  funext a
  kernel_rfl
theorem strings_Trim.ok : strings_Trim.ann.ok Tryz.prog 0 43 :=
  ann_ok (by kernel_rfl) (by kernel_rfl) (show ∀ c ∈ ([strings_trimRightByte.c, strings_trimLeftByte.c] : List Callee'), c.ok Tryz.prog from cs_cons strings_trimRightByte.sound (cs_cons strings_trimLeftByte.sound cs_nil))
    (show ∀ c ∈ ([strings_trimRightByte.c, strings_trimLeftByte.c] : List Callee'), FunQuiet c.F from cs_cons strings_trimRightByte.quiet (cs_cons strings_trimLeftByte.quiet cs_nil))
theorem strings_Trim.sound : strings_Trim.c.ok Tryz.prog := by
  refine ⟨?_, Tryz.f124, strings_Trim.code, Tryz.func124, rfl, by decide⟩
  have h := fn_sound tt_ok mix_ok (x := strings_Trim.ann) (ins := strings_Trim.ins) (outs := strings_Trim.outs) (N := 43) Tryz.func124 (c := strings_Trim.code) rfl rfl (by kernel_rfl) (by kernel_rfl) strings_Trim.ok (by decide)
  rw [strings_Trim.eq] at h
  exact h

/-! ### (*wainwright/log.Log).free: function 171 -/
noncomputable def log_Log_free : (((List (List UInt8) × (List (Int × List UInt8)) × Int × Int) × Bool × Int) × Int) → Option (Bool) := fun (l0, i1) =>
  if decide (i1 ≥ 0) = true then
    (slab_Slab_Size l0.1).bind fun r13 =>
      if decide (i1 < r13) = true then
        if decide (i1 < 1) = false then
          some ((decide (i1 ≥ 42)))
        else
          some true
      else
        some false
  else
    some false

def log_Log_free.ins : Spec := ⟨24, 0, [], [0, 1], (.cons (.v (.ptr (.pair (.ptr (.pair (.sl .str) (.pair (.map I .str) (.pair I I)))) (.pair .bool I)))) (.cons (.v I) .nil))⟩
def log_Log_free.outs : List Spec := [⟨24, 0, [], [4], (.cons (.v .bool) .nil)⟩]
noncomputable def log_Log_free.c : Callee' := ⟨171, mkFits log_Log_free.ins log_Log_free.outs, mkFun log_Log_free.ins log_Log_free.outs log_Log_free, mkFun_nat _ _ _⟩
theorem log_Log_free.quiet : FunQuiet log_Log_free.c.F := mkFun_quiet rfl rfl
noncomputable def log_Log_free.ann : Ann :=
  (.seq (.reg []) (.seq (.reg [.std, .std, .std, .std, .std, .std, .std, .std, .callq [slab_Slab_Size.c]]) .std))
noncomputable def log_Log_free.code : Code := match Tryz.f171.body with | some c => c | none => .skip
theorem log_Log_free.eq : absFn tt 24 log_Log_free.ins log_Log_free.outs log_Log_free.code log_Log_free.ann = log_Log_free := by
  funext a
  kernel_rfl
theorem log_Log_free.ok : log_Log_free.ann.ok Tryz.prog 0 24 :=
  ann_ok (by kernel_rfl) (by kernel_rfl) (show ∀ c ∈ ([slab_Slab_Size.c] : List Callee'), c.ok Tryz.prog from cs_cons slab_Slab_Size.sound cs_nil)
    (show ∀ c ∈ ([slab_Slab_Size.c] : List Callee'), FunQuiet c.F from cs_cons slab_Slab_Size.quiet cs_nil)
theorem log_Log_free.sound : log_Log_free.c.ok Tryz.prog := by
  refine ⟨?_, Tryz.f171, log_Log_free.code, Tryz.func171, rfl, by decide⟩
  have h := fn_sound tt_ok mix_ok (x := log_Log_free.ann) (ins := log_Log_free.ins) (outs := log_Log_free.outs) (N := 24) Tryz.func171 (c := log_Log_free.code) rfl rfl (by kernel_rfl) (by kernel_rfl) log_Log_free.ok (by decide)
  rw [log_Log_free.eq] at h
  exact h

/-! ### (*wainwright/log.Log).right: function 126 -/
noncomputable def log_Log_right.l1 : ((List (Int × Int)) × ((List (List UInt8) × (List (Int × List UInt8)) × Int × Int) × Bool × Int) × (List (Int × List UInt8)) × Int × Int) → Option (((List (Int × Int)) × ((List (List UInt8) × (List (Int × List UInt8)) × Int × Int) × Bool × Int) × (List (Int × List UInt8)) × Int × Int) ⊕ (Unit ⊕ Bool)) := fun (seen5, l0, t9, t10, t11) =>
  if decide (t11 < t10) = true then
    if 0 ≤ t11 ∧ t11 < (t9.length : Int) then
      (log_Log_free (l0, (t9.getD t11.toNat (0, [])).1)).bind fun r23 =>
        if (!r23) = false then
          if ((((t9.getD t11.toNat (0, [])).2).length : Int) != 128) = false then
            if decide (((mget (K := I) (V := I) (mput (K := I) (V := I) seen5 ((t9.getD t11.toNat (0, [])).1) (IntKind.i64.wrap (((mget (K := I) (V := I) seen5 ((t9.getD t11.toNat (0, [])).1)).getD 0) + 1))) ((t9.getD t11.toNat (0, [])).1)).getD 0) > 1) = true then
              some (.inr (.inr false))
            else
              some (.inl ((mput (K := I) (V := I) seen5 ((t9.getD t11.toNat (0, [])).1) (IntKind.i64.wrap (((mget (K := I) (V := I) seen5 ((t9.getD t11.toNat (0, [])).1)).getD 0) + 1)), l0, t9, t10, IntKind.i64.wrap (t11 + 1))))
          else
            some (.inr (.inr false))
        else
          some (.inr (.inr false))
    else none
  else
    some (.inr (.inl ()))

noncomputable def log_Log_right : (((List (List UInt8) × (List (Int × List UInt8)) × Int × Int) × Bool × Int) × List (Int × List UInt8)) → Option (Bool) := fun (l0, c1) =>
  (loopO log_Log_right.l1 ((([] : List (Int × Int)), l0, c1, (c1.length : Int), 0))).bind fun d => match d with
  | .inl _ =>
    some true
  | .inr t4 =>
    some t4

def log_Log_right.ins : Spec := ⟨39, 0, [], [0, 1], (.cons (.v (.ptr (.pair (.ptr (.pair (.sl .str) (.pair (.map I .str) (.pair I I)))) (.pair .bool I)))) (.cons (.v (.sl (.st (.pair I .str)))) .nil))⟩
def log_Log_right.outs : List Spec := [⟨39, 0, [], [4], (.cons (.v .bool) .nil)⟩]
noncomputable def log_Log_right.c : Callee' := ⟨126, mkFits log_Log_right.ins log_Log_right.outs, mkFun log_Log_right.ins log_Log_right.outs log_Log_right, mkFun_nat _ _ _⟩
theorem log_Log_right.quiet : FunQuiet log_Log_right.c.F := mkFun_quiet rfl rfl
noncomputable def log_Log_right.ann : Ann :=
  (.seq (.reg []) (.seq (.reg [.mp I I]) (.seq (.seq (.reg []) (.block (.loop ⟨39, 0, [.map I I], [0, 5, 9, 10, 11], (.cons (.v (.ptr (.pair (.ptr (.pair (.sl .str) (.pair (.map I .str) (.pair I I)))) (.pair .bool I)))) (.cons (.ref 0) (.cons (.v (.sl (.st (.pair I .str)))) (.cons (.v I) (.cons (.v I) .nil)))))⟩ [(.exit 0, ⟨39, 0, [], [], .nil⟩), (.ret, ⟨39, 0, [], [4], (.cons (.v .bool) .nil)⟩)]
  (.seq (.reg []) (.seq (.cond .std .std) (.seq (.block (.seq (.reg []) (.seq (.reg []) (.seq (.reg [.std, .std, .std, .callq [log_Log_free.c]]) (.cond (.seq (.reg []) .std) .std))))) (.reg []))))))) (.seq (.reg []) .std))))
noncomputable def log_Log_right.code : Code := match Tryz.f126.body with | some c => c | none => .skip
theorem log_Log_right.eq : absFn tt 39 log_Log_right.ins log_Log_right.outs log_Log_right.code log_Log_right.ann = log_Log_right := by
  funext a
  kernel_rfl
theorem log_Log_right.ok : log_Log_right.ann.ok Tryz.prog 0 39 :=
  ann_ok (by kernel_rfl) (by kernel_rfl) (show ∀ c ∈ ([log_Log_free.c] : List Callee'), c.ok Tryz.prog from cs_cons log_Log_free.sound cs_nil)
    (show ∀ c ∈ ([log_Log_free.c] : List Callee'), FunQuiet c.F from cs_cons log_Log_free.quiet cs_nil)
theorem log_Log_right.sound : log_Log_right.c.ok Tryz.prog := by
  refine ⟨?_, Tryz.f126, log_Log_right.code, Tryz.func126, rfl, by decide⟩
  have h := fn_sound tt_ok mix_ok (x := log_Log_right.ann) (ins := log_Log_right.ins) (outs := log_Log_right.outs) (N := 39) Tryz.func126 (c := log_Log_right.code) rfl rfl (by kernel_rfl) (by kernel_rfl) log_Log_right.ok (by decide)
  rw [log_Log_right.eq] at h
  exact h

/-! ### (*wainwright/log.Log).read: function 68 -/
noncomputable def log_Log_read.l1 : ((List (Int × List UInt8)) × ((List (List UInt8) × (List (Int × List UInt8)) × Int × Int) × Bool × Int) × List Int × Int × Int) → Option (((List (Int × List UInt8)) × ((List (List UInt8) × (List (Int × List UInt8)) × Int × Int) × Bool × Int) × List Int × Int × Int) ⊕ ((List (Int × List UInt8)) × (List (List UInt8) × (List (Int × List UInt8)) × Int × Int) × Bool × Int)) := fun (c9, l0, t43, t44, t45) =>
  if decide (t45 < t44) = true then
    if 0 ≤ t45 ∧ t45 < (t43.length : Int) then
      (slab_Slab_Read (l0.1, IntKind.i64.wrap (2 + t45))).bind fun r58 =>
        if roomOk (c9.length + (([(t43.getD t45.toNat 0, r58)] : List (Int × List UInt8))).length) 24 then
          some (.inl ((c9 ++ (([(t43.getD t45.toNat 0, r58)] : List (Int × List UInt8))), l0, t43, t44, IntKind.i64.wrap (t45 + 1))))
        else none
    else none
  else
    some (.inr (((c9, l0))))

noncomputable def log_Log_read : ((List (List UInt8) × (List (Int × List UInt8)) × Int × Int) × Bool × Int) → Option ((List (Int × List UInt8)) × Bool) := fun l0 =>
  (slab_Slab_Read (l0.1, 1)).bind fun r16 =>
    if 0 ≤ (0 : Int) ∧ (0 : Int) < (r16.length : Int) then
      if decide (IntKind.i64.wrap (((r16.getD 0 0).toNat : Int)) > 40) = true then
        some (((([] : List (Int × List UInt8)), false)))
      else
        (slices_Repeat_int_int (([2] : List Int), IntKind.i64.wrap (((r16.getD 0 0).toNat : Int)))).bind fun r24 =>
          if 0 ≤ (1 : Int) ∧ (1 : Int) ≤ (r16.length : Int) then
            (mould_Read (r24, r16.drop 1)).bind fun (r29, r29_2) =>
              if (r29_2 != 0) = false then
                (mould_Size r24).bind fun r37 =>
                  if 0 ≤ IntKind.i64.wrap (1 + r37) ∧ IntKind.i64.wrap (1 + r37) ≤ (r16.length : Int) then
                    (strings_Trim (r16.drop (IntKind.i64.wrap (1 + r37)).toNat, ([0] : List UInt8))).bind fun r40 =>
                      if (!(r40 == [])) = true then
                        some (((([] : List (Int × List UInt8)), false)))
                      else
                        (loopO log_Log_read.l1 (([], l0, r29, (r29.length : Int), 0))).bind fun (c9, l0) =>
                          (log_Log_right (l0, c9)).bind fun r66 =>
                            some (((c9, r66)))
                  else none
              else
                some (((([] : List (Int × List UInt8)), false)))
          else none
    else none

def log_Log_read.ins : Spec := ⟨67, 0, [], [0], (.cons (.v (.ptr (.pair (.ptr (.pair (.sl .str) (.pair (.map I .str) (.pair I I)))) (.pair .bool I)))) .nil)⟩
def log_Log_read.outs : List Spec := [⟨67, 0, [], [2, 3], (.cons (.v (.sl (.st (.pair I .str)))) (.cons (.v .bool) .nil))⟩]
noncomputable def log_Log_read.c : Callee' := ⟨68, mkFits log_Log_read.ins log_Log_read.outs, mkFun log_Log_read.ins log_Log_read.outs log_Log_read, mkFun_nat _ _ _⟩
theorem log_Log_read.quiet : FunQuiet log_Log_read.c.F := mkFun_quiet rfl rfl
noncomputable def log_Log_read.ann : Ann :=
  (.seq (.reg []) (.seq (.reg [.std, .std, .std, .std, .callq [slab_Slab_Read.c]]) (.seq (.reg []) (.seq (.seq (.reg []) (.cond (.seq (.reg []) .std) .std)) (.seq (.reg [.inl I, .std, .callq [slices_Repeat_int_int.c]]) (.seq (.reg [.std, .std, .std, .callq [mould_Read.c]]) (.seq (.seq (.reg [.std, .std, .std, .std, .std, .callq [mould_Size.c], .std, .std, .callq [strings_Trim.c]]) (.cond (.seq (.reg []) .std) .std)) (.seq (.reg []) (.seq (.seq (.reg []) (.block (.loop ⟨67, 0, [.arr (.st (.pair I .str))], [0, 9, 43, 44, 45], (.cons (.v (.ptr (.pair (.ptr (.pair (.sl .str) (.pair (.map I .str) (.pair I I)))) (.pair .bool I)))) (.cons (.ref 0) (.cons (.v (.sl I)) (.cons (.v I) (.cons (.v I) .nil)))))⟩ [(.exit 0, ⟨67, 0, [.arr (.st (.pair I .str))], [0, 9], (.cons (.v (.ptr (.pair (.ptr (.pair (.sl .str) (.pair (.map I .str) (.pair I I)))) (.pair .bool I)))) (.cons (.ref 0) .nil))⟩)]
  (.seq (.reg []) (.seq (.cond .std .std) (.seq (.block (.seq (.reg []) (.reg [.std, .std, .std, .std, .std, .std, .std, .std, .callq [slab_Slab_Read.c], .std, .inl (.st (.pair I .str)), .obj (.st (.pair I .str))]))) (.reg []))))))) (.seq (.reg [.std, .std, .std, .callq [log_Log_right.c]]) .std))))))))))
noncomputable def log_Log_read.code : Code := match Tryz.f68.body with | some c => c | none => .skip
theorem log_Log_read.eq : absFn tt 67 log_Log_read.ins log_Log_read.outs log_Log_read.code log_Log_read.ann = log_Log_read := by
  funext a
  kernel_rfl
theorem log_Log_read.ok : log_Log_read.ann.ok Tryz.prog 0 67 :=
  ann_ok (by kernel_rfl) (by kernel_rfl) (show ∀ c ∈ ([slab_Slab_Read.c, slices_Repeat_int_int.c, mould_Read.c, mould_Size.c, strings_Trim.c, slab_Slab_Read.c, log_Log_right.c] : List Callee'), c.ok Tryz.prog from cs_cons slab_Slab_Read.sound (cs_cons slices_Repeat_int_int.sound (cs_cons mould_Read.sound (cs_cons mould_Size.sound (cs_cons strings_Trim.sound (cs_cons slab_Slab_Read.sound (cs_cons log_Log_right.sound cs_nil)))))))
    (show ∀ c ∈ ([slab_Slab_Read.c, slices_Repeat_int_int.c, mould_Read.c, mould_Size.c, strings_Trim.c, slab_Slab_Read.c, log_Log_right.c] : List Callee'), FunQuiet c.F from cs_cons slab_Slab_Read.quiet (cs_cons slices_Repeat_int_int.quiet (cs_cons mould_Read.quiet (cs_cons mould_Size.quiet (cs_cons strings_Trim.quiet (cs_cons slab_Slab_Read.quiet (cs_cons log_Log_right.quiet cs_nil)))))))
theorem log_Log_read.sound : log_Log_read.c.ok Tryz.prog := by
  refine ⟨?_, Tryz.f68, log_Log_read.code, Tryz.func68, rfl, by decide⟩
  have h := fn_sound tt_ok mix_ok (x := log_Log_read.ann) (ins := log_Log_read.ins) (outs := log_Log_read.outs) (N := 67) Tryz.func68 (c := log_Log_read.code) rfl rfl (by kernel_rfl) (by kernel_rfl) log_Log_read.ok (by decide)
  rw [log_Log_read.eq] at h
  exact h

/-! ### (*wainwright/log.Log).read: function 68 -/
noncomputable def log_Log_read_1.l1 : ((((List (List UInt8) × (List (Int × List UInt8)) × Int × Int) × Bool × Int) × List (Int × List UInt8)) × List Int × Int × Int) → Option (((((List (List UInt8) × (List (Int × List UInt8)) × Int × Int) × Bool × Int) × List (Int × List UInt8)) × List Int × Int × Int) ⊕ (((List (List UInt8) × (List (Int × List UInt8)) × Int × Int) × Bool × Int) × List (Int × List UInt8))) := fun (((l0a, l0b, l0c), c9), t43, t44, t45) =>
  if decide (t45 < t44) = true then
    if 0 ≤ t45 ∧ t45 < (t43.length : Int) then
      (slab_Slab_Read (l0a, IntKind.i64.wrap (2 + t45))).bind fun r58 =>
        if roomOk (c9.length + (([(t43.getD t45.toNat 0, r58)] : List (Int × List UInt8))).length) 24 then
          some (.inl ((((l0a, l0b, l0c), c9 ++ (([(t43.getD t45.toNat 0, r58)] : List (Int × List UInt8)))), t43, t44, IntKind.i64.wrap (t45 + 1))))
        else none
    else none
  else
    some (.inr ((((l0a, l0b, l0c), c9))))

noncomputable def log_Log_read_1 : ((List (List UInt8) × (List (Int × List UInt8)) × Int × Int) × Bool × Int) → Option (((List (List UInt8) × (List (Int × List UInt8)) × Int × Int) × Bool × Int) × (List (Int × List UInt8)) × Bool) := fun (l0a, l0b, l0c) =>
  (slab_Slab_Read (l0a, 1)).bind fun r16 =>
    if 0 ≤ (0 : Int) ∧ (0 : Int) < (r16.length : Int) then
      if decide (IntKind.i64.wrap (((r16.getD 0 0).toNat : Int)) > 40) = true then
        some ((((l0a, l0b, l0c), ([] : List (Int × List UInt8)), false)))
      else
        (slices_Repeat_int_int (([2] : List Int), IntKind.i64.wrap (((r16.getD 0 0).toNat : Int)))).bind fun r24 =>
          if 0 ≤ (1 : Int) ∧ (1 : Int) ≤ (r16.length : Int) then
            (mould_Read (r24, r16.drop 1)).bind fun (r29, r29_2) =>
              if (r29_2 != 0) = false then
                (mould_Size r24).bind fun r37 =>
                  if 0 ≤ IntKind.i64.wrap (1 + r37) ∧ IntKind.i64.wrap (1 + r37) ≤ (r16.length : Int) then
                    (strings_Trim (r16.drop (IntKind.i64.wrap (1 + r37)).toNat, ([0] : List UInt8))).bind fun r40 =>
                      if (!(r40 == [])) = true then
                        some ((((l0a, l0b, l0c), ([] : List (Int × List UInt8)), false)))
                      else
                        (loopO log_Log_read_1.l1 ((((l0a, l0b, l0c), []), r29, (r29.length : Int), 0))).bind fun ((l0a, l0b, l0c), c9) =>
                          (log_Log_right ((l0a, l0b, l0c), c9)).bind fun r66 =>
                            some ((((l0a, l0b, l0c), c9, r66)))
                  else none
              else
                some ((((l0a, l0b, l0c), ([] : List (Int × List UInt8)), false)))
          else none
    else none

def log_Log_read_1.ins : Spec := ⟨67, 0, [.box (.cons (.v (.ptr (.pair (.sl .str) (.pair (.map I .str) (.pair I I))))) (.cons (.v .bool) (.cons (.v I) .nil)))], [0], (.cons (.ref 0) .nil)⟩
def log_Log_read_1.outs : List Spec := [⟨67, 1, [.box (.cons (.v (.ptr (.pair (.sl .str) (.pair (.map I .str) (.pair I I))))) (.cons (.v .bool) (.cons (.v I) .nil)))], [2, 3], (.cons (.v (.sl (.st (.pair I .str)))) (.cons (.v .bool) .nil))⟩]
noncomputable def log_Log_read_1.c : Callee' := ⟨68, mkFits log_Log_read_1.ins log_Log_read_1.outs, mkFun log_Log_read_1.ins log_Log_read_1.outs log_Log_read_1, mkFun_nat _ _ _⟩
noncomputable def log_Log_read_1.ann : Ann :=
  (.seq (.reg []) (.seq (.reg [.std, .std, .std, .std, .callq [slab_Slab_Read.c]]) (.seq (.reg []) (.seq (.seq (.reg []) (.cond (.seq (.reg []) .std) .std)) (.seq (.reg [.inl I, .std, .callq [slices_Repeat_int_int.c]]) (.seq (.reg [.std, .std, .std, .callq [mould_Read.c]]) (.seq (.seq (.reg [.std, .std, .std, .std, .std, .callq [mould_Size.c], .std, .std, .callq [strings_Trim.c]]) (.cond (.seq (.reg []) .std) .std)) (.seq (.reg []) (.seq (.seq (.reg []) (.block (.loop ⟨67, 1, [.box (.cons (.v (.ptr (.pair (.sl .str) (.pair (.map I .str) (.pair I I))))) (.cons (.v .bool) (.cons (.v I) .nil))), .arr (.st (.pair I .str))], [0, 9, 43, 44, 45], (.cons (.ref 0) (.cons (.ref 1) (.cons (.v (.sl I)) (.cons (.v I) (.cons (.v I) .nil)))))⟩ [(.exit 0, ⟨67, 1, [.box (.cons (.v (.ptr (.pair (.sl .str) (.pair (.map I .str) (.pair I I))))) (.cons (.v .bool) (.cons (.v I) .nil))), .arr (.st (.pair I .str))], [0, 9], (.cons (.ref 0) (.cons (.ref 1) .nil))⟩)]
  (.seq (.reg []) (.seq (.cond .std .std) (.seq (.block (.seq (.reg []) (.reg [.std, .std, .std, .std, .std, .std, .std, .std, .callq [slab_Slab_Read.c], .std, .inl (.st (.pair I .str)), .obj (.st (.pair I .str))]))) (.reg []))))))) (.seq (.reg [.std, .std, .std, .callq [log_Log_right.c]]) .std))))))))))
noncomputable def log_Log_read_1.code : Code := match Tryz.f68.body with | some c => c | none => .skip
theorem log_Log_read_1.eq : absFn tt 67 log_Log_read_1.ins log_Log_read_1.outs log_Log_read_1.code log_Log_read_1.ann = log_Log_read_1 := by
  funext a
  kernel_rfl
theorem log_Log_read_1.ok : log_Log_read_1.ann.ok Tryz.prog 1 67 :=
  ann_ok (by kernel_rfl) (by kernel_rfl) (show ∀ c ∈ ([slab_Slab_Read.c, slices_Repeat_int_int.c, mould_Read.c, mould_Size.c, strings_Trim.c, slab_Slab_Read.c, log_Log_right.c] : List Callee'), c.ok Tryz.prog from cs_cons slab_Slab_Read.sound (cs_cons slices_Repeat_int_int.sound (cs_cons mould_Read.sound (cs_cons mould_Size.sound (cs_cons strings_Trim.sound (cs_cons slab_Slab_Read.sound (cs_cons log_Log_right.sound cs_nil)))))))
    (show ∀ c ∈ ([slab_Slab_Read.c, slices_Repeat_int_int.c, mould_Read.c, mould_Size.c, strings_Trim.c, slab_Slab_Read.c, log_Log_right.c] : List Callee'), FunQuiet c.F from cs_cons slab_Slab_Read.quiet (cs_cons slices_Repeat_int_int.quiet (cs_cons mould_Read.quiet (cs_cons mould_Size.quiet (cs_cons strings_Trim.quiet (cs_cons slab_Slab_Read.quiet (cs_cons log_Log_right.quiet cs_nil)))))))
theorem log_Log_read_1.sound : log_Log_read_1.c.ok Tryz.prog := by
  refine ⟨?_, Tryz.f68, log_Log_read_1.code, Tryz.func68, rfl, by decide⟩
  have h := fn_sound tt_ok mix_ok (x := log_Log_read_1.ann) (ins := log_Log_read_1.ins) (outs := log_Log_read_1.outs) (N := 67) Tryz.func68 (c := log_Log_read_1.code) rfl rfl (by kernel_rfl) (by kernel_rfl) log_Log_read_1.ok (by decide)
  rw [log_Log_read_1.eq] at h
  exact h

/-! ### (*wainwright/log.Log).read: function 68 -/
noncomputable def log_Log_read_2.l1 : (((Bool × Int) × (Int × Int) × List (List UInt8) × (List (Int × List UInt8)) × List (Int × List UInt8)) × List Int × Int × Int) → Option ((((Bool × Int) × (Int × Int) × List (List UInt8) × (List (Int × List UInt8)) × List (Int × List UInt8)) × List Int × Int × Int) ⊕ ((Bool × Int) × (Int × Int) × List (List UInt8) × (List (Int × List UInt8)) × List (Int × List UInt8))) := fun (((l0b, l0c), (o1c, o1d), o2, o3, c9), t43, t44, t45) =>
  if decide (t45 < t44) = true then
    if 0 ≤ t45 ∧ t45 < (t43.length : Int) then
      (slab_Slab_Read ((o2, o3, o1c, o1d), IntKind.i64.wrap (2 + t45))).bind fun r58 =>
        if roomOk (c9.length + (([(t43.getD t45.toNat 0, r58)] : List (Int × List UInt8))).length) 24 then
          some (.inl ((((l0b, l0c), (o1c, o1d), o2, o3, c9 ++ (([(t43.getD t45.toNat 0, r58)] : List (Int × List UInt8)))), t43, t44, IntKind.i64.wrap (t45 + 1))))
        else none
    else none
  else
    some (.inr ((((l0b, l0c), (o1c, o1d), o2, o3, c9))))

noncomputable def log_Log_read_2 : ((Bool × Int) × (Int × Int) × List (List UInt8) × List (Int × List UInt8)) → Option (((Bool × Int) × (Int × Int) × List (List UInt8) × List (Int × List UInt8)) × (List (Int × List UInt8)) × Bool) := fun ((l0b, l0c), (o1c, o1d), o2, o3) =>
  (slab_Slab_Read ((o2, o3, o1c, o1d), 1)).bind fun r16 =>
    if 0 ≤ (0 : Int) ∧ (0 : Int) < (r16.length : Int) then
      if decide (IntKind.i64.wrap (((r16.getD 0 0).toNat : Int)) > 40) = true then
        some (((((l0b, l0c), (o1c, o1d), o2, o3), ([] : List (Int × List UInt8)), false)))
      else
        (slices_Repeat_int_int (([2] : List Int), IntKind.i64.wrap (((r16.getD 0 0).toNat : Int)))).bind fun r24 =>
          if 0 ≤ (1 : Int) ∧ (1 : Int) ≤ (r16.length : Int) then
            (mould_Read (r24, r16.drop 1)).bind fun (r29, r29_2) =>
              if (r29_2 != 0) = false then
                (mould_Size r24).bind fun r37 =>
                  if 0 ≤ IntKind.i64.wrap (1 + r37) ∧ IntKind.i64.wrap (1 + r37) ≤ (r16.length : Int) then
                    (strings_Trim (r16.drop (IntKind.i64.wrap (1 + r37)).toNat, ([0] : List UInt8))).bind fun r40 =>
                      if (!(r40 == [])) = true then
                        some (((((l0b, l0c), (o1c, o1d), o2, o3), ([] : List (Int × List UInt8)), false)))
                      else
                        (loopO log_Log_read_2.l1 ((((l0b, l0c), (o1c, o1d), o2, o3, []), r29, (r29.length : Int), 0))).bind fun ((l0b, l0c), (o1c, o1d), o2, o3, c9) =>
                          (log_Log_right (((o2, o3, o1c, o1d), l0b, l0c), c9)).bind fun r66 =>
                            some (((((l0b, l0c), (o1c, o1d), o2, o3), c9, r66)))
                  else none
              else
                some (((((l0b, l0c), (o1c, o1d), o2, o3), ([] : List (Int × List UInt8)), false)))
          else none
    else none

def log_Log_read_2.ins : Spec := ⟨67, 0, [.box (.cons (.ref 1) (.cons (.v .bool) (.cons (.v I) .nil))), .box (.cons (.ref 2) (.cons (.ref 3) (.cons (.v I) (.cons (.v I) .nil)))), .arr .str, .map I .str], [0], (.cons (.ref 0) .nil)⟩
def log_Log_read_2.outs : List Spec := [⟨67, 4, [.box (.cons (.ref 1) (.cons (.v .bool) (.cons (.v I) .nil))), .box (.cons (.ref 2) (.cons (.ref 3) (.cons (.v I) (.cons (.v I) .nil)))), .arr .str, .map I .str], [2, 3], (.cons (.v (.sl (.st (.pair I .str)))) (.cons (.v .bool) .nil))⟩]
noncomputable def log_Log_read_2.c : Callee' := ⟨68, mkFits log_Log_read_2.ins log_Log_read_2.outs, mkFun log_Log_read_2.ins log_Log_read_2.outs log_Log_read_2, mkFun_nat _ _ _⟩
noncomputable def log_Log_read_2.ann : Ann :=
  (.seq (.reg []) (.seq (.reg [.std, .std, .std, .std, .callq [slab_Slab_Read.c]]) (.seq (.reg []) (.seq (.seq (.reg []) (.cond (.seq (.reg []) .std) .std)) (.seq (.reg [.inl I, .std, .callq [slices_Repeat_int_int.c]]) (.seq (.reg [.std, .std, .std, .callq [mould_Read.c]]) (.seq (.seq (.reg [.std, .std, .std, .std, .std, .callq [mould_Size.c], .std, .std, .callq [strings_Trim.c]]) (.cond (.seq (.reg []) .std) .std)) (.seq (.reg []) (.seq (.seq (.reg []) (.block (.loop ⟨67, 4, [.box (.cons (.ref 1) (.cons (.v .bool) (.cons (.v I) .nil))), .box (.cons (.ref 2) (.cons (.ref 3) (.cons (.v I) (.cons (.v I) .nil)))), .arr .str, .map I .str, .arr (.st (.pair I .str))], [0, 9, 43, 44, 45], (.cons (.ref 0) (.cons (.ref 4) (.cons (.v (.sl I)) (.cons (.v I) (.cons (.v I) .nil)))))⟩ [(.exit 0, ⟨67, 4, [.box (.cons (.ref 1) (.cons (.v .bool) (.cons (.v I) .nil))), .box (.cons (.ref 2) (.cons (.ref 3) (.cons (.v I) (.cons (.v I) .nil)))), .arr .str, .map I .str, .arr (.st (.pair I .str))], [0, 9], (.cons (.ref 0) (.cons (.ref 4) .nil))⟩)]
  (.seq (.reg []) (.seq (.cond .std .std) (.seq (.block (.seq (.reg []) (.reg [.std, .std, .std, .std, .std, .std, .std, .std, .callq [slab_Slab_Read.c], .std, .inl (.st (.pair I .str)), .obj (.st (.pair I .str))]))) (.reg []))))))) (.seq (.reg [.std, .std, .std, .callq [log_Log_right.c]]) .std))))))))))
noncomputable def log_Log_read_2.code : Code := match Tryz.f68.body with | some c => c | none => .skip
theorem log_Log_read_2.eq : absFn tt 67 log_Log_read_2.ins log_Log_read_2.outs log_Log_read_2.code log_Log_read_2.ann = log_Log_read_2 := by
  funext a
  kernel_rfl
theorem log_Log_read_2.ok : log_Log_read_2.ann.ok Tryz.prog 4 67 :=
  ann_ok (by kernel_rfl) (by kernel_rfl) (show ∀ c ∈ ([slab_Slab_Read.c, slices_Repeat_int_int.c, mould_Read.c, mould_Size.c, strings_Trim.c, slab_Slab_Read.c, log_Log_right.c] : List Callee'), c.ok Tryz.prog from cs_cons slab_Slab_Read.sound (cs_cons slices_Repeat_int_int.sound (cs_cons mould_Read.sound (cs_cons mould_Size.sound (cs_cons strings_Trim.sound (cs_cons slab_Slab_Read.sound (cs_cons log_Log_right.sound cs_nil)))))))
    (show ∀ c ∈ ([slab_Slab_Read.c, slices_Repeat_int_int.c, mould_Read.c, mould_Size.c, strings_Trim.c, slab_Slab_Read.c, log_Log_right.c] : List Callee'), FunQuiet c.F from cs_cons slab_Slab_Read.quiet (cs_cons slices_Repeat_int_int.quiet (cs_cons mould_Read.quiet (cs_cons mould_Size.quiet (cs_cons strings_Trim.quiet (cs_cons slab_Slab_Read.quiet (cs_cons log_Log_right.quiet cs_nil)))))))
theorem log_Log_read_2.sound : log_Log_read_2.c.ok Tryz.prog := by
  refine ⟨?_, Tryz.f68, log_Log_read_2.code, Tryz.func68, rfl, by decide⟩
  have h := fn_sound tt_ok mix_ok (x := log_Log_read_2.ann) (ins := log_Log_read_2.ins) (outs := log_Log_read_2.outs) (N := 67) Tryz.func68 (c := log_Log_read_2.code) rfl rfl (by kernel_rfl) (by kernel_rfl) log_Log_read_2.ok (by decide)
  rw [log_Log_read_2.eq] at h
  exact h

/-! ### (*wainwright/slab.Slab).call: function 172 -/
noncomputable def slab_Slab_call : ((Int × Int) × List (List UInt8) × List (Int × List UInt8)) → Option (((Int × Int) × List (List UInt8) × List (Int × List UInt8)) × Int) := fun ((s0c, s0d), o1, o2) =>
  ((
    if (s0d == 0) = true then
      some (.inr (((((IntKind.i64.wrap (s0c + 1), s0d), o1, o2), 14))))
    else
      if decide (s0d > 0) = true then
        some (.inl (((s0c, IntKind.i64.wrap (s0d - 1)), o1, o2)))
      else
        some (.inl (((s0c, s0d), o1, o2)))) : Option (((Int × Int) × List (List UInt8) × List (Int × List UInt8)) ⊕ (((Int × Int) × List (List UInt8) × List (Int × List UInt8)) × Int))).bind fun d => match d with
  | .inl ((s0c, s0d), o1, o2) =>
    some (((((IntKind.i64.wrap (s0c + 1), s0d), o1, o2), 0)))
  | .inr ((((o0c, o0d), o1, o2), t2)) =>
    some (((((o0c, o0d), o1, o2), t2)))

def slab_Slab_call.ins : Spec := ⟨39, 0, [.box (.cons (.ref 1) (.cons (.ref 2) (.cons (.v I) (.cons (.v I) .nil)))), .arr .str, .map I .str], [0], (.cons (.ref 0) .nil)⟩
def slab_Slab_call.outs : List Spec := [⟨39, 3, [.box (.cons (.ref 1) (.cons (.ref 2) (.cons (.v I) (.cons (.v I) .nil)))), .arr .str, .map I .str], [2], (.cons (.v I) .nil)⟩]
noncomputable def slab_Slab_call.c : Callee' := ⟨172, mkFits slab_Slab_call.ins slab_Slab_call.outs, mkFun slab_Slab_call.ins slab_Slab_call.outs slab_Slab_call, mkFun_nat _ _ _⟩
noncomputable def slab_Slab_call.ann : Ann :=
  (.seq (.reg []) (.join [(.norm, ⟨39, 3, [.box (.cons (.ref 1) (.cons (.ref 2) (.cons (.v I) (.cons (.v I) .nil)))), .arr .str, .map I .str], [0], (.cons (.ref 0) .nil)⟩), (.ret, ⟨39, 3, [.box (.cons (.ref 1) (.cons (.ref 2) (.cons (.v I) (.cons (.v I) .nil)))), .arr .str, .map I .str], [2], (.cons (.v I) .nil)⟩)]
  (.block (.seq (.reg [.std, .obj .bool]) (.cond (.seq (.reg []) .std) (.seq (.reg []) (.cond (.seq (.reg []) (.seq (.reg []) .std)) (.seq (.reg []) (.cond (.reg []) .std))))))) (.seq (.reg []) (.seq (.reg []) .std))))
noncomputable def slab_Slab_call.code : Code := match Tryz.f172.body with | some c => c | none => .skip
theorem slab_Slab_call.eq : absFn tt 39 slab_Slab_call.ins slab_Slab_call.outs slab_Slab_call.code slab_Slab_call.ann = slab_Slab_call := by
  funext a
  kernel_rfl
theorem slab_Slab_call.ok : slab_Slab_call.ann.ok Tryz.prog 3 39 :=
  ann_ok (by kernel_rfl) (by kernel_rfl) (show ∀ c ∈ ([] : List Callee'), c.ok Tryz.prog from cs_nil)
    (show ∀ c ∈ ([] : List Callee'), FunQuiet c.F from cs_nil)
theorem slab_Slab_call.sound : slab_Slab_call.c.ok Tryz.prog := by
  refine ⟨?_, Tryz.f172, slab_Slab_call.code, Tryz.func172, rfl, by decide⟩
  have h := fn_sound tt_ok mix_ok (x := slab_Slab_call.ann) (ins := slab_Slab_call.ins) (outs := slab_Slab_call.outs) (N := 39) Tryz.func172 (c := slab_Slab_call.code) rfl rfl (by kernel_rfl) (by kernel_rfl) slab_Slab_call.ok (by decide)
  rw [slab_Slab_call.eq] at h
  exact h

/-! ### (*wainwright/slab.Slab).Write: function 130 -/
noncomputable def slab_Slab_Write : (((Int × Int) × List (List UInt8) × List (Int × List UInt8)) × Int × List UInt8) → Option (((Int × Int) × List (List UInt8) × List (Int × List UInt8)) × Int) := fun (((s0c, s0d), o1, o2), i1, data2) =>
  (slab_Slab_call ((s0c, s0d), o1, o2)).bind fun (((r9, r9_2), r9_3, r9_4), r9_5) =>
    if (r9_5 != 0) = true then
      some (((((r9, r9_2), r9_3, r9_4), r9_5)))
    else
      (slab_Slab_there ((r9_3, r9_4, r9, r9_2), i1)).bind fun r15 =>
        if (!r15) = false then
          if decide ((data2.length : Int) > 128) = true then
            some (((((r9, r9_2), r9_3, r9_4), 1)))
          else
            (slab_whole data2).bind fun r28 =>
              some (((((r9, r9_2), r9_3, mput (K := I) (V := .str) r9_4 i1 r28), 0)))
        else
          some (((((r9, r9_2), r9_3, r9_4), 1)))

def slab_Slab_Write.ins : Spec := ⟨29, 0, [.box (.cons (.ref 1) (.cons (.ref 2) (.cons (.v I) (.cons (.v I) .nil)))), .arr .str, .map I .str], [0, 1, 2], (.cons (.ref 0) (.cons (.v I) (.cons (.v .str) .nil)))⟩
def slab_Slab_Write.outs : List Spec := [⟨29, 3, [.box (.cons (.ref 1) (.cons (.ref 2) (.cons (.v I) (.cons (.v I) .nil)))), .arr .str, .map I .str], [6], (.cons (.v I) .nil)⟩]
noncomputable def slab_Slab_Write.c : Callee' := ⟨130, mkFits slab_Slab_Write.ins slab_Slab_Write.outs, mkFun slab_Slab_Write.ins slab_Slab_Write.outs slab_Slab_Write, mkFun_nat _ _ _⟩
noncomputable def slab_Slab_Write.ann : Ann :=
  (.seq (.reg []) (.seq (.seq (.reg [.std, .call [slab_Slab_call.c]]) (.seq (.reg []) (.cond (.seq (.reg []) .std) .std))) (.seq (.seq (.reg [.std, .std, .callq [slab_Slab_there.c]]) (.cond (.seq (.reg []) .std) .std)) (.seq (.drw [.std, .std, .std, .std, .std, .std, .callq [slab_whole.c]]) (.seq (.reg []) .std)))))
noncomputable def slab_Slab_Write.code : Code := match Tryz.f130.body with | some c => c | none => .skip
theorem slab_Slab_Write.eq : absFn tt 29 slab_Slab_Write.ins slab_Slab_Write.outs slab_Slab_Write.code slab_Slab_Write.ann = slab_Slab_Write := by
  funext a
  kernel_rfl
theorem slab_Slab_Write.ok : slab_Slab_Write.ann.ok Tryz.prog 3 29 :=
  ann_ok (by kernel_rfl) (by kernel_rfl) (show ∀ c ∈ ([slab_Slab_call.c, slab_Slab_there.c, slab_whole.c] : List Callee'), c.ok Tryz.prog from cs_cons slab_Slab_call.sound (cs_cons slab_Slab_there.sound (cs_cons slab_whole.sound cs_nil)))
    (show ∀ c ∈ ([slab_Slab_there.c, slab_whole.c] : List Callee'), FunQuiet c.F from cs_cons slab_Slab_there.quiet (cs_cons slab_whole.quiet cs_nil))
theorem slab_Slab_Write.sound : slab_Slab_Write.c.ok Tryz.prog := by
  refine ⟨?_, Tryz.f130, slab_Slab_Write.code, Tryz.func130, rfl, by decide⟩
  have h := fn_sound tt_ok mix_ok (x := slab_Slab_Write.ann) (ins := slab_Slab_Write.ins) (outs := slab_Slab_Write.outs) (N := 29) Tryz.func130 (c := slab_Slab_Write.code) rfl rfl (by kernel_rfl) (by kernel_rfl) slab_Slab_Write.ok (by decide)
  rw [slab_Slab_Write.eq] at h
  exact h

/-! ### maps.Keys[map[int]string,int,string]: function 82 -/
noncomputable def maps_Keys_map_int_string_int_string : (List (Int × List UInt8)) → Option (List (Int × List UInt8)) := fun m0 =>
  some m0

def maps_Keys_map_int_string_int_string.ins : Spec := ⟨4, 0, [.map I .str], [0], (.cons (.ref 0) .nil)⟩
def maps_Keys_map_int_string_int_string.outs : List Spec := [⟨4, 1, [.map I .str, .box (.cons (.ref 0) .nil)], [2], (.cons (.fn (.func 135) .nil (.cons (.ref 1) .nil)) .nil)⟩]
noncomputable def maps_Keys_map_int_string_int_string.c : Callee' := ⟨82, mkFits maps_Keys_map_int_string_int_string.ins maps_Keys_map_int_string_int_string.outs, mkFun maps_Keys_map_int_string_int_string.ins maps_Keys_map_int_string_int_string.outs maps_Keys_map_int_string_int_string, mkFun_nat _ _ _⟩
noncomputable def maps_Keys_map_int_string_int_string.ann : Ann :=
  (.seq (.reg []) (.seq (.reg []) .std))
noncomputable def maps_Keys_map_int_string_int_string.code : Code := match Tryz.f82.body with | some c => c | none => .skip
theorem maps_Keys_map_int_string_int_string.eq : absFn tt 4 maps_Keys_map_int_string_int_string.ins maps_Keys_map_int_string_int_string.outs maps_Keys_map_int_string_int_string.code maps_Keys_map_int_string_int_string.ann = maps_Keys_map_int_string_int_string := by
  funext a
  kernel_rfl
theorem maps_Keys_map_int_string_int_string.ok : maps_Keys_map_int_string_int_string.ann.ok Tryz.prog 1 4 :=
  ann_ok (by kernel_rfl) (by kernel_rfl) (show ∀ c ∈ ([] : List Callee'), c.ok Tryz.prog from cs_nil)
    (show ∀ c ∈ ([] : List Callee'), FunQuiet c.F from cs_nil)
theorem maps_Keys_map_int_string_int_string.sound : maps_Keys_map_int_string_int_string.c.ok Tryz.prog := by
  refine ⟨?_, Tryz.f82, maps_Keys_map_int_string_int_string.code, Tryz.func82, rfl, by decide⟩
  have h := fn_sound tt_ok mix_ok (x := maps_Keys_map_int_string_int_string.ann) (ins := maps_Keys_map_int_string_int_string.ins) (outs := maps_Keys_map_int_string_int_string.outs) (N := 4) Tryz.func82 (c := maps_Keys_map_int_string_int_string.code) rfl rfl (by kernel_rfl) (by kernel_rfl) maps_Keys_map_int_string_int_string.ok (by decide)
  rw [maps_Keys_map_int_string_int_string.eq] at h
  exact h

/-! ### (*wainwright/slab.Slab).Loose: function 29 -/
noncomputable def slab_Slab_Loose : ((Int × Int) × List (List UInt8) × List (Int × List UInt8)) → Option (((Int × Int) × List (List UInt8) × List (Int × List UInt8)) × List Int) := fun ((s0c, s0d), o1, o2) =>
  (maps_Keys_map_int_string_int_string o2).bind fun r9 =>
    (slices_Sorted r9).bind fun (r10, r10_2) =>
      some (((((s0c, s0d), o1, r10), r10_2)))

def slab_Slab_Loose.ins : Spec := ⟨11, 0, [.box (.cons (.ref 1) (.cons (.ref 2) (.cons (.v I) (.cons (.v I) .nil)))), .arr .str, .map I .str], [0], (.cons (.ref 0) .nil)⟩
def slab_Slab_Loose.outs : List Spec := [⟨11, 3, [.box (.cons (.ref 1) (.cons (.ref 2) (.cons (.v I) (.cons (.v I) .nil)))), .arr .str, .map I .str], [2], (.cons (.v (.sl I)) .nil)⟩]
noncomputable def slab_Slab_Loose.c : Callee' := ⟨29, mkFits slab_Slab_Loose.ins slab_Slab_Loose.outs, mkFun slab_Slab_Loose.ins slab_Slab_Loose.outs slab_Slab_Loose, mkFun_nat _ _ _⟩
noncomputable def slab_Slab_Loose.ann : Ann :=
  (.seq (.reg []) (.seq (.seq (.reg [.std, .obj .bool]) (.cond (.seq (.reg []) .std) .std)) (.seq (.reg [.std, .std, .std, .std, .call [maps_Keys_map_int_string_int_string.c], .call [slices_Sorted.c]]) .std)))
noncomputable def slab_Slab_Loose.code : Code := match Tryz.f29.body with | some c => c | none => .skip
theorem slab_Slab_Loose.eq : absFn tt 11 slab_Slab_Loose.ins slab_Slab_Loose.outs slab_Slab_Loose.code slab_Slab_Loose.ann = slab_Slab_Loose := by
  funext a
  kernel_rfl
theorem slab_Slab_Loose.ok : slab_Slab_Loose.ann.ok Tryz.prog 3 11 :=
  ann_ok (by kernel_rfl) (by kernel_rfl) (show ∀ c ∈ ([maps_Keys_map_int_string_int_string.c, slices_Sorted.c] : List Callee'), c.ok Tryz.prog from cs_cons maps_Keys_map_int_string_int_string.sound (cs_cons slices_Sorted.sound cs_nil))
    (show ∀ c ∈ ([] : List Callee'), FunQuiet c.F from cs_nil)
theorem slab_Slab_Loose.sound : slab_Slab_Loose.c.ok Tryz.prog := by
  refine ⟨?_, Tryz.f29, slab_Slab_Loose.code, Tryz.func29, rfl, by decide⟩
  have h := fn_sound tt_ok mix_ok (x := slab_Slab_Loose.ann) (ins := slab_Slab_Loose.ins) (outs := slab_Slab_Loose.outs) (N := 11) Tryz.func29 (c := slab_Slab_Loose.code) rfl rfl (by kernel_rfl) (by kernel_rfl) slab_Slab_Loose.ok (by decide)
  rw [slab_Slab_Loose.eq] at h
  exact h

theorem slab_Slab_Loose.quiet : FunQuiet slab_Slab_Loose.c.F := slab_quiet (n := 11) (m := 11) (is := [0]) (os := [2]) (so := (.cons (.v (.sl I)) .nil)) slab_Slab_Loose fun (x : (Int × Int) × List (List UInt8) × List (Int × List UInt8)) (y : ((Int × Int) × List (List UInt8) × List (Int × List UInt8)) × List Int) h => by
  obtain ⟨⟨c, u⟩, xs, es⟩ := x
  change ((slices_Sorted es).bind fun q => some (((c, u), xs, q.1), q.2)) = some y at h
  obtain ⟨q, h1, h2⟩ := Option.bind_eq_some_iff.1 h
  unfold slices_Sorted at h1
  split at h1
  · rw [← Option.some.inj h2, ← Option.some.inj h1]
    rfl
  · cases h1

/-! ### (*wainwright/slab.Slab).Flush$1: function 174 -/
noncomputable def slab_Slab_Flush_1 : Int → Option (Bool) := fun t0 =>
  some true

def slab_Slab_Flush_1.ins : Spec := ⟨3, 0, [], [0], (.cons (.v I) .nil)⟩
def slab_Slab_Flush_1.outs : List Spec := [⟨3, 0, [], [2], (.cons (.v .bool) .nil)⟩]
noncomputable def slab_Slab_Flush_1.c : Callee' := ⟨174, mkFits slab_Slab_Flush_1.ins slab_Slab_Flush_1.outs, mkFun slab_Slab_Flush_1.ins slab_Slab_Flush_1.outs slab_Slab_Flush_1, mkFun_nat _ _ _⟩
theorem slab_Slab_Flush_1.quiet : FunQuiet slab_Slab_Flush_1.c.F := mkFun_quiet rfl rfl
noncomputable def slab_Slab_Flush_1.ann : Ann :=
  (.seq (.reg []) (.seq (.reg []) .std))
noncomputable def slab_Slab_Flush_1.code : Code := match Tryz.f174.body with | some c => c | none => .skip
theorem slab_Slab_Flush_1.eq : absFn tt 3 slab_Slab_Flush_1.ins slab_Slab_Flush_1.outs slab_Slab_Flush_1.code slab_Slab_Flush_1.ann = slab_Slab_Flush_1 := by
  funext a
  kernel_rfl
theorem slab_Slab_Flush_1.ok : slab_Slab_Flush_1.ann.ok Tryz.prog 0 3 :=
  ann_ok (by kernel_rfl) (by kernel_rfl) (show ∀ c ∈ ([] : List Callee'), c.ok Tryz.prog from cs_nil)
    (show ∀ c ∈ ([] : List Callee'), FunQuiet c.F from cs_nil)
theorem slab_Slab_Flush_1.sound : slab_Slab_Flush_1.c.ok Tryz.prog := by
  refine ⟨?_, Tryz.f174, slab_Slab_Flush_1.code, Tryz.func174, rfl, by decide⟩
  have h := fn_sound tt_ok mix_ok (x := slab_Slab_Flush_1.ann) (ins := slab_Slab_Flush_1.ins) (outs := slab_Slab_Flush_1.outs) (N := 3) Tryz.func174 (c := slab_Slab_Flush_1.code) rfl rfl (by kernel_rfl) (by kernel_rfl) slab_Slab_Flush_1.ok (by decide)
  rw [slab_Slab_Flush_1.eq] at h
  exact h

/-! ### (*wainwright/slab.Slab).keep: function 173 -/
noncomputable def slab_Slab_keep.l1 : (((Int × Int) × List (List UInt8) × List (Int × List UInt8)) × List Int × Int × Int) → Option ((((Int × Int) × List (List UInt8) × List (Int × List UInt8)) × List Int × Int × Int) ⊕ ((Int × Int) × List (List UInt8) × List (Int × List UInt8))) := fun (((s0c, s0d), o1, o2), t7, t8, t9) =>
  if decide (t9 < t8) = true then
    if 0 ≤ t9 ∧ t9 < (t7.length : Int) then
      (slab_Slab_Flush_1 t9).bind fun r16 =>
        if r16 = true then
          if 0 ≤ t7.getD t9.toNat 0 ∧ t7.getD t9.toNat 0 < (o1.length : Int) then
            some (.inl ((((s0c, s0d), o1.set ((t7.getD t9.toNat 0).toNat) (((mget (K := I) (V := .str) o2 (t7.getD t9.toNat 0)).getD [])), o2), t7, t8, IntKind.i64.wrap (t9 + 1))))
          else none
        else
          some (.inl ((((s0c, s0d), o1, o2), t7, t8, IntKind.i64.wrap (t9 + 1))))
    else none
  else
    some (.inr ((((s0c, s0d), o1, o2))))

noncomputable def slab_Slab_keep : ((Int × Int) × List (List UInt8) × List (Int × List UInt8)) → Option ((Int × Int) × List (List UInt8) × List (Int × List UInt8)) := fun ((s0c, s0d), o1, o2) =>
  (slab_Slab_Loose ((s0c, s0d), o1, o2)).bind fun ((_, _, _), r7) =>
    (loopO slab_Slab_keep.l1 ((((s0c, s0d), o1, o2), r7, (r7.length : Int), 0))).bind fun ((s0c, s0d), o1, o2) =>
      some ((((s0c, s0d), o1, ([] : List (Int × List UInt8)))))

def slab_Slab_keep.ins : Spec := ⟨34, 0, [.box (.cons (.ref 1) (.cons (.ref 2) (.cons (.v I) (.cons (.v I) .nil)))), .arr .str, .map I .str], [0, 1], (.cons (.ref 0) (.cons (.fn (.func 174) .nil .nil) .nil))⟩
def slab_Slab_keep.outs : List Spec := [⟨34, 3, [.box (.cons (.ref 1) (.cons (.ref 2) (.cons (.v I) (.cons (.v I) .nil)))), .arr .str, .map I .str], [], .nil⟩]
noncomputable def slab_Slab_keep.c : Callee' := ⟨173, mkFits slab_Slab_keep.ins slab_Slab_keep.outs, mkFun slab_Slab_keep.ins slab_Slab_keep.outs slab_Slab_keep, mkFun_nat _ _ _⟩
noncomputable def slab_Slab_keep.ann : Ann :=
  (.seq (.seq (.reg [.std, .callq [slab_Slab_Loose.c]]) (.block (.loop ⟨34, 3, [.box (.cons (.ref 1) (.cons (.ref 2) (.cons (.v I) (.cons (.v I) .nil)))), .arr .str, .map I .str], [0, 1, 7, 8, 9], (.cons (.ref 0) (.cons (.fn (.func 174) .nil .nil) (.cons (.v (.sl I)) (.cons (.v I) (.cons (.v I) .nil)))))⟩ [(.exit 0, ⟨34, 3, [.box (.cons (.ref 1) (.cons (.ref 2) (.cons (.v I) (.cons (.v I) .nil)))), .arr .str, .map I .str], [0], (.cons (.ref 0) .nil)⟩)]
  (.seq (.reg []) (.seq (.cond .std .std) (.seq (.block (.seq (.reg []) (.seq (.reg [.std, .std, .callq [slab_Slab_Flush_1.c]]) (.cond (.drw []) .std)))) (.reg []))))))) (.reg []))
noncomputable def slab_Slab_keep.code : Code := match Tryz.f173.body with | some c => c | none => .skip
theorem slab_Slab_keep.eq : absFn tt 34 slab_Slab_keep.ins slab_Slab_keep.outs slab_Slab_keep.code slab_Slab_keep.ann = slab_Slab_keep := by
  funext a
  kernel_rfl
theorem slab_Slab_keep.ok : slab_Slab_keep.ann.ok Tryz.prog 3 34 :=
  ann_ok (by kernel_rfl) (by kernel_rfl) (show ∀ c ∈ ([slab_Slab_Loose.c, slab_Slab_Flush_1.c] : List Callee'), c.ok Tryz.prog from cs_cons slab_Slab_Loose.sound (cs_cons slab_Slab_Flush_1.sound cs_nil))
    (show ∀ c ∈ ([slab_Slab_Loose.c, slab_Slab_Flush_1.c] : List Callee'), FunQuiet c.F from cs_cons slab_Slab_Loose.quiet (cs_cons slab_Slab_Flush_1.quiet cs_nil))
theorem slab_Slab_keep.sound : slab_Slab_keep.c.ok Tryz.prog := by
  refine ⟨?_, Tryz.f173, slab_Slab_keep.code, Tryz.func173, rfl, by decide⟩
  have h := fn_sound tt_ok mix_ok (x := slab_Slab_keep.ann) (ins := slab_Slab_keep.ins) (outs := slab_Slab_keep.outs) (N := 34) Tryz.func173 (c := slab_Slab_keep.code) rfl rfl (by kernel_rfl) (by kernel_rfl) slab_Slab_keep.ok (by decide)
  rw [slab_Slab_keep.eq] at h
  exact h

/-! ### (*wainwright/slab.Slab).Flush: function 131 -/
noncomputable def slab_Slab_Flush : ((Int × Int) × List (List UInt8) × List (Int × List UInt8)) → Option (((Int × Int) × List (List UInt8) × List (Int × List UInt8)) × Int) := fun ((s0c, s0d), o1, o2) =>
  (slab_Slab_call ((s0c, s0d), o1, o2)).bind fun (((r5, r5_2), r5_3, r5_4), r5_5) =>
    if (r5_5 == 0) = true then
      (slab_Slab_keep ((r5, r5_2), r5_3, r5_4)).bind fun ((r9, r9_2), r9_3, r9_4) =>
        some (((((r9, r9_2), r9_3, r9_4), r5_5)))
    else
      some (((((r5, r5_2), r5_3, r5_4), r5_5)))

def slab_Slab_Flush.ins : Spec := ⟨11, 0, [.box (.cons (.ref 1) (.cons (.ref 2) (.cons (.v I) (.cons (.v I) .nil)))), .arr .str, .map I .str], [0], (.cons (.ref 0) .nil)⟩
def slab_Slab_Flush.outs : List Spec := [⟨11, 3, [.box (.cons (.ref 1) (.cons (.ref 2) (.cons (.v I) (.cons (.v I) .nil)))), .arr .str, .map I .str], [2], (.cons (.v I) .nil)⟩]
noncomputable def slab_Slab_Flush.c : Callee' := ⟨131, mkFits slab_Slab_Flush.ins slab_Slab_Flush.outs, mkFun slab_Slab_Flush.ins slab_Slab_Flush.outs slab_Slab_Flush, mkFun_nat _ _ _⟩
noncomputable def slab_Slab_Flush.ann : Ann :=
  (.seq (.reg []) (.seq (.reg [.std, .call [slab_Slab_call.c]]) (.seq (.seq (.reg []) (.cond (.reg [.std, .call [slab_Slab_keep.c]]) .std)) (.seq (.reg []) .std))))
noncomputable def slab_Slab_Flush.code : Code := match Tryz.f131.body with | some c => c | none => .skip
theorem slab_Slab_Flush.eq : absFn tt 11 slab_Slab_Flush.ins slab_Slab_Flush.outs slab_Slab_Flush.code slab_Slab_Flush.ann = slab_Slab_Flush := by
  funext a
  kernel_rfl
theorem slab_Slab_Flush.ok : slab_Slab_Flush.ann.ok Tryz.prog 3 11 :=
  ann_ok (by kernel_rfl) (by kernel_rfl) (show ∀ c ∈ ([slab_Slab_call.c, slab_Slab_keep.c] : List Callee'), c.ok Tryz.prog from cs_cons slab_Slab_call.sound (cs_cons slab_Slab_keep.sound cs_nil))
    (show ∀ c ∈ ([] : List Callee'), FunQuiet c.F from cs_nil)
theorem slab_Slab_Flush.sound : slab_Slab_Flush.c.ok Tryz.prog := by
  refine ⟨?_, Tryz.f131, slab_Slab_Flush.code, Tryz.func131, rfl, by decide⟩
  have h := fn_sound tt_ok mix_ok (x := slab_Slab_Flush.ann) (ins := slab_Slab_Flush.ins) (outs := slab_Slab_Flush.outs) (N := 11) Tryz.func131 (c := slab_Slab_Flush.code) rfl rfl (by kernel_rfl) (by kernel_rfl) slab_Slab_Flush.ok (by decide)
  rw [slab_Slab_Flush.eq] at h
  exact h

/-! ### (*wainwright/log.Log).write: function 74 -/
noncomputable def log_Log_write.l1 : (((Bool × Int) × (Int × Int) × List (List UInt8) × List (Int × List UInt8)) × (List (Int × List UInt8)) × Int × Int) → Option ((((Bool × Int) × (Int × Int) × List (List UInt8) × List (Int × List UInt8)) × (List (Int × List UInt8)) × Int × Int) ⊕ (((Bool × Int) × (Int × Int) × List (List UInt8) × List (Int × List UInt8)) ⊕ (((Bool × Int) × (Int × Int) × List (List UInt8) × List (Int × List UInt8)) × Int))) := fun (((l0b, l0c), (o1c, o1d), o2, o3), t8, t9, t10) =>
  if decide (t10 < t9) = true then
    if 0 ≤ t10 ∧ t10 < (t8.length : Int) then
      (slab_Slab_Write (((o1c, o1d), o2, o3), (t8.getD t10.toNat (0, [])).1, (t8.getD t10.toNat (0, [])).2)).bind fun (((r22, r22_2), r22_3, r22_4), r22_5) =>
        if (r22_5 != 0) = true then
          some (.inr (.inr (((((l0b, l0c), (r22, r22_2), r22_3, r22_4), r22_5)))))
        else
          some (.inl ((((l0b, l0c), (r22, r22_2), r22_3, r22_4), t8, t9, IntKind.i64.wrap (t10 + 1))))
    else none
  else
    some (.inr (.inl (((l0b, l0c), (o1c, o1d), o2, o3))))

noncomputable def log_Log_write : (((Bool × Int) × (Int × Int) × List (List UInt8) × List (Int × List UInt8)) × List (Int × List UInt8)) → Option (((Bool × Int) × (Int × Int) × List (List UInt8) × List (Int × List UInt8)) × Int) := fun (((l0b, l0c), (o1c, o1d), o2, o3), c1) =>
  (loopO log_Log_write.l1 ((((l0b, l0c), (o1c, o1d), o2, o3), c1, (c1.length : Int), 0))).bind fun d => match d with
  | .inl ((l0b, l0c), (o1c, o1d), o2, o3) =>
    (slab_Slab_Flush ((o1c, o1d), o2, o3)).bind fun (((r31, r31_2), r31_3, r31_4), r31_5) =>
      some (((((l0b, l0c), (r31, r31_2), r31_3, r31_4), r31_5)))
  | .inr ((((o0b, o0c), (o1c, o1d), o2, o3), t4)) =>
    some (((((o0b, o0c), (o1c, o1d), o2, o3), t4)))

def log_Log_write.ins : Spec := ⟨32, 0, [.box (.cons (.ref 1) (.cons (.v .bool) (.cons (.v I) .nil))), .box (.cons (.ref 2) (.cons (.ref 3) (.cons (.v I) (.cons (.v I) .nil)))), .arr .str, .map I .str], [0, 1], (.cons (.ref 0) (.cons (.v (.sl (.st (.pair I .str)))) .nil))⟩
def log_Log_write.outs : List Spec := [⟨32, 4, [.box (.cons (.ref 1) (.cons (.v .bool) (.cons (.v I) .nil))), .box (.cons (.ref 2) (.cons (.ref 3) (.cons (.v I) (.cons (.v I) .nil)))), .arr .str, .map I .str], [4], (.cons (.v I) .nil)⟩]
noncomputable def log_Log_write.c : Callee' := ⟨74, mkFits log_Log_write.ins log_Log_write.outs, mkFun log_Log_write.ins log_Log_write.outs log_Log_write, mkFun_nat _ _ _⟩
noncomputable def log_Log_write.ann : Ann :=
  (.seq (.reg []) (.seq (.seq (.reg []) (.block (.loop ⟨32, 4, [.box (.cons (.ref 1) (.cons (.v .bool) (.cons (.v I) .nil))), .box (.cons (.ref 2) (.cons (.ref 3) (.cons (.v I) (.cons (.v I) .nil)))), .arr .str, .map I .str], [0, 8, 9, 10], (.cons (.ref 0) (.cons (.v (.sl (.st (.pair I .str)))) (.cons (.v I) (.cons (.v I) .nil))))⟩ [(.exit 0, ⟨32, 4, [.box (.cons (.ref 1) (.cons (.v .bool) (.cons (.v I) .nil))), .box (.cons (.ref 2) (.cons (.ref 3) (.cons (.v I) (.cons (.v I) .nil)))), .arr .str, .map I .str], [0], (.cons (.ref 0) .nil)⟩), (.ret, ⟨32, 4, [.box (.cons (.ref 1) (.cons (.v .bool) (.cons (.v I) .nil))), .box (.cons (.ref 2) (.cons (.ref 3) (.cons (.v I) (.cons (.v I) .nil)))), .arr .str, .map I .str], [4], (.cons (.v I) .nil)⟩)]
  (.seq (.reg []) (.seq (.cond .std .std) (.seq (.block (.seq (.reg []) (.seq (.drw [.std, .std, .std, .std, .std, .std, .std, .std, .call [slab_Slab_Write.c]]) (.seq (.reg []) (.cond (.seq (.reg []) .std) .std))))) (.reg []))))))) (.seq (.reg [.std, .std, .std, .std, .call [slab_Slab_Flush.c]]) .std)))
noncomputable def log_Log_write.code : Code := match Tryz.f74.body with | some c => c | none => .skip
theorem log_Log_write.eq : absFn tt 32 log_Log_write.ins log_Log_write.outs log_Log_write.code log_Log_write.ann = log_Log_write := by
  funext a
  kernel_rfl
theorem log_Log_write.ok : log_Log_write.ann.ok Tryz.prog 4 32 :=
  ann_ok (by kernel_rfl) (by kernel_rfl) (show ∀ c ∈ ([slab_Slab_Write.c, slab_Slab_Flush.c] : List Callee'), c.ok Tryz.prog from cs_cons slab_Slab_Write.sound (cs_cons slab_Slab_Flush.sound cs_nil))
    (show ∀ c ∈ ([] : List Callee'), FunQuiet c.F from cs_nil)
theorem log_Log_write.sound : log_Log_write.c.ok Tryz.prog := by
  refine ⟨?_, Tryz.f74, log_Log_write.code, Tryz.func74, rfl, by decide⟩
  have h := fn_sound tt_ok mix_ok (x := log_Log_write.ann) (ins := log_Log_write.ins) (outs := log_Log_write.outs) (N := 32) Tryz.func74 (c := log_Log_write.code) rfl rfl (by kernel_rfl) (by kernel_rfl) log_Log_write.ok (by decide)
  rw [log_Log_write.eq] at h
  exact h

/-! ### (*wainwright/log.Log).apply$1: function 127 -/
noncomputable def log_Log_apply_1 : (((Bool × Int) × (Int × Int) × List (List UInt8) × List (Int × List UInt8)) × List (Int × List UInt8)) → Option (((Bool × Int) × (Int × Int) × List (List UInt8) × List (Int × List UInt8)) × Int) := fun (((o1b, o1c), (o2c, o2d), o3, o4), t1) =>
  (log_Log_write (((o1b, o1c), (o2c, o2d), o3, o4), t1)).bind fun (((r5, r5_2), (r5_3, r5_4), r5_5, r5_6), r5_7) =>
    some (((((r5, r5_2), (r5_3, r5_4), r5_5, r5_6), r5_7)))

def log_Log_apply_1.ins : Spec := ⟨6, 0, [.box (.cons (.ref 1) .nil), .box (.cons (.ref 2) (.cons (.v .bool) (.cons (.v I) .nil))), .box (.cons (.ref 3) (.cons (.ref 4) (.cons (.v I) (.cons (.v I) .nil)))), .arr .str, .map I .str], [0, 1], (.cons (.ref 0) (.cons (.v (.ptr (.sl (.st (.pair I .str))))) .nil))⟩
def log_Log_apply_1.outs : List Spec := [⟨6, 5, [.box (.cons (.ref 1) .nil), .box (.cons (.ref 2) (.cons (.v .bool) (.cons (.v I) .nil))), .box (.cons (.ref 3) (.cons (.ref 4) (.cons (.v I) (.cons (.v I) .nil)))), .arr .str, .map I .str], [2], (.cons (.v I) .nil)⟩]
noncomputable def log_Log_apply_1.c : Callee' := ⟨127, mkFits log_Log_apply_1.ins log_Log_apply_1.outs, mkFun log_Log_apply_1.ins log_Log_apply_1.outs log_Log_apply_1, mkFun_nat _ _ _⟩
noncomputable def log_Log_apply_1.ann : Ann :=
  (.seq (.reg []) (.seq (.reg [.std, .std, .call [log_Log_write.c]]) .std))
noncomputable def log_Log_apply_1.code : Code := match Tryz.f127.body with | some c => c | none => .skip
theorem log_Log_apply_1.eq : absFn tt 6 log_Log_apply_1.ins log_Log_apply_1.outs log_Log_apply_1.code log_Log_apply_1.ann = log_Log_apply_1 := by
  funext a
  kernel_rfl
theorem log_Log_apply_1.ok : log_Log_apply_1.ann.ok Tryz.prog 5 6 :=
  ann_ok (by kernel_rfl) (by kernel_rfl) (show ∀ c ∈ ([log_Log_write.c] : List Callee'), c.ok Tryz.prog from cs_cons log_Log_write.sound cs_nil)
    (show ∀ c ∈ ([] : List Callee'), FunQuiet c.F from cs_nil)
theorem log_Log_apply_1.sound : log_Log_apply_1.c.ok Tryz.prog := by
  refine ⟨?_, Tryz.f127, log_Log_apply_1.code, Tryz.func127, rfl, by decide⟩
  have h := fn_sound tt_ok mix_ok (x := log_Log_apply_1.ann) (ins := log_Log_apply_1.ins) (outs := log_Log_apply_1.outs) (N := 6) Tryz.func127 (c := log_Log_apply_1.code) rfl rfl (by kernel_rfl) (by kernel_rfl) log_Log_apply_1.ok (by decide)
  rw [log_Log_apply_1.eq] at h
  exact h

/-! ### wainwright/mould.Write: function 132 -/
noncomputable def mould_Write.l2 : (List Int × List Int × Int × Int × List Int × Int × Int) → Option ((List Int × List Int × Int × Int × List Int × Int × Int) ⊕ (List Int × List Int × List Int × Int × Int)) := fun (b6, widths0, v8, w9, t23, t24, t25) =>
  if decide (w9 > 0) = true then
    if roomOk (b6.length + (([IntKind.u8.wrap (v8)] : List Int)).length) 1 then
      some (.inl ((b6 ++ (([IntKind.u8.wrap (v8)] : List Int)), widths0, Int.fdiv v8 (2 ^ 8), IntKind.i64.wrap (w9 - 1), t23, t24, t25)))
    else none
  else
    some (.inr (((b6, widths0, t23, t24, t25))))

noncomputable def mould_Write.l1 : (List Int × List Int × List Int × Int × Int) → Option ((List Int × List Int × List Int × Int × Int) ⊕ ((List Int) ⊕ (List UInt8 × Int))) := fun (b6, widths0, t23, t24, t25) =>
  if decide (t25 < t24) = true then
    if 0 ≤ t25 ∧ t25 < (t23.length : Int) then
      if 0 ≤ t25 ∧ t25 < (widths0.length : Int) then
        if decide (t23.getD t25.toNat 0 < 0) = false then
          if 0 ≤ IntKind.i64.wrap (8 * (widths0.getD t25.toNat 0)) then
            if (Int.fdiv (t23.getD t25.toNat 0) (2 ^ (min (IntKind.i64.wrap (8 * (widths0.getD t25.toNat 0))).toNat 64)) != 0) = true then
              some (.inr (.inr ((([], 3)))))
            else
              (loopO mould_Write.l2 ((b6, widths0, t23.getD t25.toNat 0, widths0.getD t25.toNat 0, t23, t24, t25))).bind fun (b6, widths0, t23, t24, t25) =>
                some (.inl ((b6, widths0, t23, t24, IntKind.i64.wrap (t25 + 1))))
          else none
        else
          some (.inr (.inr ((([], 3)))))
      else none
    else none
  else
    some (.inr (.inl b6))

noncomputable def mould_Write : (List Int × List Int) → Option (List UInt8 × Int) := fun (widths0, values1) =>
  (mould_Size widths0).bind fun r11 =>
    if decide (r11 < 0) = false then
      if ((widths0.length : Int) != (values1.length : Int)) = true then
        some ((([], 1)))
      else
        (mould_Size widths0).bind fun r21 =>
          if 0 ≤ (0 : Int) ∧ (0 : Int) ≤ r21 ∧ r21 * (1 : Nat) ≤ 140737488355328 ∧ r21 ≤ 9223372036854775807 then
            (loopO mould_Write.l1 ((List.replicate 0 (0 : Int), widths0, values1, (values1.length : Int), 0))).bind fun d => match d with
            | .inl b6 =>
              some (((b6.map fun (n : Int) => UInt8.ofNat n.toNat, 0)))
            | .inr ((t4, t5)) =>
              some (((t4, t5)))
          else none
    else
      some ((([], 1)))

def mould_Write.ins : Spec := ⟨57, 0, [], [0, 1], (.cons (.v (.sl I)) (.cons (.v (.sl I)) .nil))⟩
def mould_Write.outs : List Spec := [⟨57, 0, [], [4, 5], (.cons (.v .str) (.cons (.v I) .nil))⟩]
noncomputable def mould_Write.c : Callee' := ⟨132, mkFits mould_Write.ins mould_Write.outs, mkFun mould_Write.ins mould_Write.outs mould_Write, mkFun_nat _ _ _⟩
theorem mould_Write.quiet : FunQuiet mould_Write.c.F := mkFun_quiet rfl rfl
noncomputable def mould_Write.ann : Ann :=
  (.seq (.reg []) (.seq (.seq (.reg [.std, .callq [mould_Size.c]]) (.cond (.seq (.reg []) .std) .std)) (.seq (.reg [.std, .callq [mould_Size.c], .obj (.int .u8)]) (.seq (.seq (.reg []) (.block (.loop ⟨57, 0, [.arr (.int .u8)], [0, 6, 23, 24, 25], (.cons (.v (.sl I)) (.cons (.ref 0) (.cons (.v (.sl I)) (.cons (.v I) (.cons (.v I) .nil)))))⟩ [(.exit 0, ⟨57, 0, [.arr (.int .u8)], [6], (.cons (.ref 0) .nil)⟩), (.ret, ⟨57, 0, [], [4, 5], (.cons (.v .str) (.cons (.v I) .nil))⟩)]
  (.seq (.reg []) (.seq (.cond .std .std) (.seq (.block (.seq (.reg []) (.seq (.reg []) (.seq (.seq (.reg []) (.cond (.seq (.reg []) .std) .std)) (.block (.loop ⟨57, 0, [.arr (.int .u8)], [0, 6, 8, 9, 23, 24, 25], (.cons (.v (.sl I)) (.cons (.ref 0) (.cons (.v I) (.cons (.v I) (.cons (.v (.sl I)) (.cons (.v I) (.cons (.v I) .nil)))))))⟩ [(.exit 2, ⟨57, 0, [.arr (.int .u8)], [0, 6, 23, 24, 25], (.cons (.v (.sl I)) (.cons (.ref 0) (.cons (.v (.sl I)) (.cons (.v I) (.cons (.v I) .nil)))))⟩)]
  (.seq (.seq (.reg []) (.cond .std .std)) (.seq (.block (.seq (.reg [.std, .std, .std, .inl (.int .u8), .obj (.int .u8)]) (.reg []))) (.reg []))))))))) (.reg []))))))) (.seq (.reg []) .std)))))
noncomputable def mould_Write.code : Code := match Tryz.f132.body with | some c => c | none => .skip
theorem mould_Write.eq : absFn tt 57 mould_Write.ins mould_Write.outs mould_Write.code mould_Write.ann = mould_Write := by
  funext a
  kernel_rfl
theorem mould_Write.ok : mould_Write.ann.ok Tryz.prog 0 57 :=
  ann_ok (by kernel_rfl) (by kernel_rfl) (show ∀ c ∈ ([mould_Size.c, mould_Size.c] : List Callee'), c.ok Tryz.prog from cs_cons mould_Size.sound (cs_cons mould_Size.sound cs_nil))
    (show ∀ c ∈ ([mould_Size.c, mould_Size.c] : List Callee'), FunQuiet c.F from cs_cons mould_Size.quiet (cs_cons mould_Size.quiet cs_nil))
theorem mould_Write.sound : mould_Write.c.ok Tryz.prog := by
  refine ⟨?_, Tryz.f132, mould_Write.code, Tryz.func132, rfl, by decide⟩
  have h := fn_sound tt_ok mix_ok (x := mould_Write.ann) (ins := mould_Write.ins) (outs := mould_Write.outs) (N := 57) Tryz.func132 (c := mould_Write.code) rfl rfl (by kernel_rfl) (by kernel_rfl) mould_Write.ok (by decide)
  rw [mould_Write.eq] at h
  exact h

/-! ### wainwright/log.headOf: function 76 -/
noncomputable def log_headOf : List Int → Option (List (Int × List UInt8)) := fun blocks0 =>
  (slices_Repeat_int_int (([2] : List Int), (blocks0.length : Int))).bind fun r9 =>
    (mould_Write (r9, blocks0)).bind fun (r11, r11_2) =>
      if ((([IntKind.u8.wrap ((blocks0.length : Int))] : List Int)).map fun (n : Int) => UInt8.ofNat n.toNat).length + r11.length ≤ 9223372036854775807 then
        (mould_Pad (((([IntKind.u8.wrap ((blocks0.length : Int))] : List Int)).map fun (n : Int) => UInt8.ofNat n.toNat) ++ r11, 128)).bind fun (r22, r22_2) =>
          some ((([(1, r22)] : List (Int × List UInt8))))
      else none

def log_headOf.ins : Spec := ⟨28, 0, [], [0], (.cons (.v (.sl I)) .nil)⟩
def log_headOf.outs : List Spec := [⟨28, 0, [], [2], (.cons (.v (.sl (.st (.pair I .str)))) .nil)⟩]
noncomputable def log_headOf.c : Callee' := ⟨76, mkFits log_headOf.ins log_headOf.outs, mkFun log_headOf.ins log_headOf.outs log_headOf, mkFun_nat _ _ _⟩
theorem log_headOf.quiet : FunQuiet log_headOf.c.F := mkFun_quiet rfl rfl
noncomputable def log_headOf.ann : Ann :=
  (.seq (.reg []) (.seq (.reg [.inl I, .std, .std, .callq [slices_Repeat_int_int.c], .std, .callq [mould_Write.c]]) (.seq (.reg [.std, .std, .std, .inl (.int .u8), .std, .std, .std, .callq [mould_Pad.c]]) (.seq (.reg [.std, .std, .inl (.st (.pair I .str))]) .std))))
noncomputable def log_headOf.code : Code := match Tryz.f76.body with | some c => c | none => .skip
theorem log_headOf.eq : absFn tt 28 log_headOf.ins log_headOf.outs log_headOf.code log_headOf.ann = log_headOf := by
  funext a
  kernel_rfl
theorem log_headOf.ok : log_headOf.ann.ok Tryz.prog 0 28 :=
  ann_ok (by kernel_rfl) (by kernel_rfl) (show ∀ c ∈ ([slices_Repeat_int_int.c, mould_Write.c, mould_Pad.c] : List Callee'), c.ok Tryz.prog from cs_cons slices_Repeat_int_int.sound (cs_cons mould_Write.sound (cs_cons mould_Pad.sound cs_nil)))
    (show ∀ c ∈ ([slices_Repeat_int_int.c, mould_Write.c, mould_Pad.c] : List Callee'), FunQuiet c.F from cs_cons slices_Repeat_int_int.quiet (cs_cons mould_Write.quiet (cs_cons mould_Pad.quiet cs_nil)))
theorem log_headOf.sound : log_headOf.c.ok Tryz.prog := by
  refine ⟨?_, Tryz.f76, log_headOf.code, Tryz.func76, rfl, by decide⟩
  have h := fn_sound tt_ok mix_ok (x := log_headOf.ann) (ins := log_headOf.ins) (outs := log_headOf.outs) (N := 28) Tryz.func76 (c := log_headOf.code) rfl rfl (by kernel_rfl) (by kernel_rfl) log_headOf.ok (by decide)
  rw [log_headOf.eq] at h
  exact h

/-! ### (*wainwright/log.Log).apply$2: function 128 -/
noncomputable def log_Log_apply_2 : ((Bool × Int) × (Int × Int) × List (List UInt8) × List (Int × List UInt8)) → Option (((Bool × Int) × (Int × Int) × List (List UInt8) × List (Int × List UInt8)) × Int) := fun ((o1b, o1c), (o2c, o2d), o3, o4) =>
  (log_headOf ([] : List Int)).bind fun r3 =>
    (log_Log_write (((o1b, o1c), (o2c, o2d), o3, o4), r3)).bind fun (((r4, r4_2), (r4_3, r4_4), r4_5, r4_6), r4_7) =>
      some (((((r4, r4_2), (r4_3, r4_4), r4_5, r4_6), r4_7)))

def log_Log_apply_2.ins : Spec := ⟨5, 0, [.box (.cons (.ref 1) .nil), .box (.cons (.ref 2) (.cons (.v .bool) (.cons (.v I) .nil))), .box (.cons (.ref 3) (.cons (.ref 4) (.cons (.v I) (.cons (.v I) .nil)))), .arr .str, .map I .str], [0], (.cons (.ref 0) .nil)⟩
def log_Log_apply_2.outs : List Spec := [⟨5, 5, [.box (.cons (.ref 1) .nil), .box (.cons (.ref 2) (.cons (.v .bool) (.cons (.v I) .nil))), .box (.cons (.ref 3) (.cons (.ref 4) (.cons (.v I) (.cons (.v I) .nil)))), .arr .str, .map I .str], [1], (.cons (.v I) .nil)⟩]
noncomputable def log_Log_apply_2.c : Callee' := ⟨128, mkFits log_Log_apply_2.ins log_Log_apply_2.outs, mkFun log_Log_apply_2.ins log_Log_apply_2.outs log_Log_apply_2, mkFun_nat _ _ _⟩
noncomputable def log_Log_apply_2.ann : Ann :=
  (.seq (.reg []) (.seq (.drw [.std, .callq [log_headOf.c], .call [log_Log_write.c]]) .std))
noncomputable def log_Log_apply_2.code : Code := match Tryz.f128.body with | some c => c | none => .skip
theorem log_Log_apply_2.eq : absFn tt 5 log_Log_apply_2.ins log_Log_apply_2.outs log_Log_apply_2.code log_Log_apply_2.ann = log_Log_apply_2 := by
  funext a
  kernel_rfl
theorem log_Log_apply_2.ok : log_Log_apply_2.ann.ok Tryz.prog 5 5 :=
  ann_ok (by kernel_rfl) (by kernel_rfl) (show ∀ c ∈ ([log_headOf.c, log_Log_write.c] : List Callee'), c.ok Tryz.prog from cs_cons log_headOf.sound (cs_cons log_Log_write.sound cs_nil))
    (show ∀ c ∈ ([log_headOf.c] : List Callee'), FunQuiet c.F from cs_cons log_headOf.quiet cs_nil)
theorem log_Log_apply_2.sound : log_Log_apply_2.c.ok Tryz.prog := by
  refine ⟨?_, Tryz.f128, log_Log_apply_2.code, Tryz.func128, rfl, by decide⟩
  have h := fn_sound tt_ok mix_ok (x := log_Log_apply_2.ann) (ins := log_Log_apply_2.ins) (outs := log_Log_apply_2.outs) (N := 5) Tryz.func128 (c := log_Log_apply_2.code) rfl rfl (by kernel_rfl) (by kernel_rfl) log_Log_apply_2.ok (by decide)
  rw [log_Log_apply_2.eq] at h
  exact h

/-! ### wainwright/log.all: function 72 -/
noncomputable def log_all : ((List (Int × List UInt8)) × (Bool × Int) × (Int × Int) × List (List UInt8) × List (Int × List UInt8)) → Option (((List (Int × List UInt8)) × (Bool × Int) × (Int × Int) × List (List UInt8) × List (Int × List UInt8)) × Int) := fun (o1, (o2b, o2c), (o3c, o3d), o4, o5) =>
  (log_Log_apply_1 (((o2b, o2c), (o3c, o3d), o4, o5), o1)).bind fun (((r13, r13_2), (r13_3, r13_4), r13_5, r13_6), r13_7) =>
    if (r13_7 != 0) = true then
      some ((((o1, (r13, r13_2), (r13_3, r13_4), r13_5, r13_6), r13_7)))
    else
      (log_Log_apply_2 ((r13, r13_2), (r13_3, r13_4), r13_5, r13_6)).bind fun (((r13a, r13a_2), (r13a_3, r13a_4), r13a_5, r13a_6), r13a_7) =>
        if (r13a_7 != 0) = true then
          some ((((o1, (r13a, r13a_2), (r13a_3, r13a_4), r13a_5, r13a_6), r13a_7)))
        else
          some ((((o1, (r13a, r13a_2), (r13a_3, r13a_4), r13a_5, r13a_6), 0)))

def log_all.ins : Spec := ⟨18, 0, [.box (.cons (.ref 2) .nil), .box (.cons (.v (.sl (.st (.pair I .str)))) .nil), .box (.cons (.ref 3) (.cons (.v .bool) (.cons (.v I) .nil))), .box (.cons (.ref 4) (.cons (.ref 5) (.cons (.v I) (.cons (.v I) .nil)))), .arr .str, .map I .str], [0], (.cons (.fsl (.cons (.fn (.func 127) .nil (.cons (.ref 0) (.cons (.ref 1) .nil))) (.cons (.fn (.func 128) .nil (.cons (.ref 0) .nil)) .nil))) .nil)⟩
def log_all.outs : List Spec := [⟨18, 6, [.box (.cons (.ref 2) .nil), .box (.cons (.v (.sl (.st (.pair I .str)))) .nil), .box (.cons (.ref 3) (.cons (.v .bool) (.cons (.v I) .nil))), .box (.cons (.ref 4) (.cons (.ref 5) (.cons (.v I) (.cons (.v I) .nil)))), .arr .str, .map I .str], [2], (.cons (.v I) .nil)⟩]
noncomputable def log_all.c : Callee' := ⟨72, mkFits log_all.ins log_all.outs, mkFun log_all.ins log_all.outs log_all, mkFun_nat _ _ _⟩
noncomputable def log_all.ann : Ann :=
  (.seq (.reg []) (.seq (.seq (.reg []) (.block (.unroll (.seq (.reg []) (.seq (.cond .std .std) (.seq (.block (.seq (.reg []) (.seq (.reg [.std, .call [log_Log_apply_1.c, log_Log_apply_2.c]]) (.seq (.reg []) (.cond (.seq (.reg []) .std) .std))))) (.reg [])))) (.unroll (.seq (.reg []) (.seq (.cond .std .std) (.seq (.block (.seq (.reg []) (.seq (.reg [.std, .call [log_Log_apply_1.c, log_Log_apply_2.c]]) (.seq (.reg []) (.cond (.seq (.reg []) .std) .std))))) (.reg [])))) (.unroll (.seq (.reg []) (.seq (.cond .std .std) (.seq (.block (.seq (.reg []) (.seq (.reg [.std, .call [log_Log_apply_1.c, log_Log_apply_2.c]]) (.seq (.reg []) (.cond (.seq (.reg []) .std) .std))))) (.reg [])))) .std))))) (.seq (.reg []) .std)))
noncomputable def log_all.code : Code := match Tryz.f72.body with | some c => c | none => .skip
theorem log_all.eq : absFn tt 18 log_all.ins log_all.outs log_all.code log_all.ann = log_all := by
  funext a
  kernel_rfl
theorem log_all.ok : log_all.ann.ok Tryz.prog 6 18 :=
  ann_ok (by kernel_rfl) (by kernel_rfl) (show ∀ c ∈ ([log_Log_apply_1.c, log_Log_apply_2.c, log_Log_apply_1.c, log_Log_apply_2.c, log_Log_apply_1.c, log_Log_apply_2.c] : List Callee'), c.ok Tryz.prog from cs_cons log_Log_apply_1.sound (cs_cons log_Log_apply_2.sound (cs_cons log_Log_apply_1.sound (cs_cons log_Log_apply_2.sound (cs_cons log_Log_apply_1.sound (cs_cons log_Log_apply_2.sound cs_nil))))))
    (show ∀ c ∈ ([] : List Callee'), FunQuiet c.F from cs_nil)
theorem log_all.sound : log_all.c.ok Tryz.prog := by
  refine ⟨?_, Tryz.f72, log_all.code, Tryz.func72, rfl, by decide⟩
  have h := fn_sound tt_ok mix_ok (x := log_all.ann) (ins := log_all.ins) (outs := log_all.outs) (N := 18) Tryz.func72 (c := log_all.code) rfl rfl (by kernel_rfl) (by kernel_rfl) log_all.ok (by decide)
  rw [log_all.eq] at h
  exact h

/-! ### (*wainwright/log.Log).apply: function 69 -/
noncomputable def log_Log_apply : (((Bool × Int) × (Int × Int) × List (List UInt8) × List (Int × List UInt8)) × List (Int × List UInt8)) → Option (((Bool × Int) × (Int × Int) × List (List UInt8) × List (Int × List UInt8)) × Int) := fun (((l0b, l0c), (o1c, o1d), o2, o3), c1) =>
  (log_all (c1, (l0b, l0c), (o1c, o1d), o2, o3)).bind fun ((r8, (r8_2, r8_3), (r8_4, r8_5), r8_6, r8_7), r8_8) =>
    some (((((r8_2, r8_3), (r8_4, r8_5), r8_6, r8_7), r8_8)))

def log_Log_apply.ins : Spec := ⟨9, 0, [.box (.cons (.ref 1) (.cons (.v .bool) (.cons (.v I) .nil))), .box (.cons (.ref 2) (.cons (.ref 3) (.cons (.v I) (.cons (.v I) .nil)))), .arr .str, .map I .str], [0, 1], (.cons (.ref 0) (.cons (.v (.sl (.st (.pair I .str)))) .nil))⟩
def log_Log_apply.outs : List Spec := [⟨9, 4, [.box (.cons (.ref 1) (.cons (.v .bool) (.cons (.v I) .nil))), .box (.cons (.ref 2) (.cons (.ref 3) (.cons (.v I) (.cons (.v I) .nil)))), .arr .str, .map I .str], [4], (.cons (.v I) .nil)⟩]
noncomputable def log_Log_apply.c : Callee' := ⟨69, mkFits log_Log_apply.ins log_Log_apply.outs, mkFun log_Log_apply.ins log_Log_apply.outs log_Log_apply, mkFun_nat _ _ _⟩
noncomputable def log_Log_apply.ann : Ann :=
  (.seq (.reg []) (.seq (.reg [.std, .std, .std, .call [log_all.c]]) .std))
noncomputable def log_Log_apply.code : Code := match Tryz.f69.body with | some c => c | none => .skip
theorem log_Log_apply.eq : absFn tt 9 log_Log_apply.ins log_Log_apply.outs log_Log_apply.code log_Log_apply.ann = log_Log_apply := by
  funext a
  kernel_rfl
theorem log_Log_apply.ok : log_Log_apply.ann.ok Tryz.prog 4 9 :=
  ann_ok (by kernel_rfl) (by kernel_rfl) (show ∀ c ∈ ([log_all.c] : List Callee'), c.ok Tryz.prog from cs_cons log_all.sound cs_nil)
    (show ∀ c ∈ ([] : List Callee'), FunQuiet c.F from cs_nil)
theorem log_Log_apply.sound : log_Log_apply.c.ok Tryz.prog := by
  refine ⟨?_, Tryz.f69, log_Log_apply.code, Tryz.func69, rfl, by decide⟩
  have h := fn_sound tt_ok mix_ok (x := log_Log_apply.ann) (ins := log_Log_apply.ins) (outs := log_Log_apply.outs) (N := 9) Tryz.func69 (c := log_Log_apply.code) rfl rfl (by kernel_rfl) (by kernel_rfl) log_Log_apply.ok (by decide)
  rw [log_Log_apply.eq] at h
  exact h

/-! ### wainwright/log.Open: function 16 -/
noncomputable def log_Open : ((Int × Int) × List (List UInt8) × List (Int × List UInt8)) → Option ((((Int × Int) × List (List UInt8) × List (Int × List UInt8)) × Int) ⊕ (((Int × Int) × List (List UInt8) × (List (Int × List UInt8)) × Bool × Int) × Int)) := fun ((s0c, s0d), o1, o2) =>
  (slab_Slab_Size (o1, o2, s0c, s0d)).bind fun r12 =>
    if decide (r12 < 64) = true then
      some (.inl ((((s0c, s0d), o1, o2), 1)))
    else
      (log_Log_read_2 ((false, 0), (s0c, s0d), o1, o2)).bind fun (((r20, r20_2), (r20_3, r20_4), r20_5, r20_6), r20_7, r20_8) =>
        if (!r20_8) = true then
          some (.inl ((((r20_3, r20_4), r20_5, r20_6), 15)))
        else
          if decide ((r20_7.length : Int) > 0) = true then
            (log_Log_apply (((r20, r20_2), (r20_3, r20_4), r20_5, r20_6), r20_7)).bind fun (((r30, r30_2), (r30_3, r30_4), r30_5, r30_6), r30_7) =>
              if (r30_7 != 0) = true then
                some (.inl ((((r30_3, r30_4), r30_5, r30_6), r30_7)))
              else
                some (.inr (((((r30_3, r30_4), r30_5, r30_6, r30, r30_2), 0))))
          else
            some (.inr (((((r20_3, r20_4), r20_5, r20_6, r20, r20_2), 0))))

def log_Open.ins : Spec := ⟨35, 0, [.box (.cons (.ref 1) (.cons (.ref 2) (.cons (.v I) (.cons (.v I) .nil)))), .arr .str, .map I .str], [0], (.cons (.ref 0) .nil)⟩
def log_Open.outs : List Spec := [⟨35, 3, [.box (.cons (.ref 1) (.cons (.ref 2) (.cons (.v I) (.cons (.v I) .nil)))), .arr .str, .map I .str], [2, 3], (.cons (.nilptr) (.cons (.v I) .nil))⟩, ⟨35, 3, [.box (.cons (.ref 1) (.cons (.ref 2) (.cons (.v I) (.cons (.v I) .nil)))), .arr .str, .map I .str, .box (.cons (.ref 0) (.cons (.v .bool) (.cons (.v I) .nil)))], [2, 3], (.cons (.ref 3) (.cons (.v I) .nil))⟩]
noncomputable def log_Open.c : Callee' := ⟨16, mkFits log_Open.ins log_Open.outs, mkFun log_Open.ins log_Open.outs log_Open, mkFun_nat _ _ _⟩
noncomputable def log_Open.ann : Ann :=
  (.seq (.reg []) (.seq (.seq (.reg [.std, .obj .bool, .std, .std, .callq [slab_Slab_Size.c]]) (.cond (.seq (.reg []) .std) .std)) (.seq (.reg []) (.seq (.reg [.std, .call [log_Log_read_2.c]]) (.seq (.seq (.reg []) (.cond (.seq (.reg []) .std) .std)) (.seq (.seq (.reg []) (.cond (.seq (.reg [.std, .std, .call [log_Log_apply.c]]) (.seq (.reg []) (.cond (.seq (.reg []) .std) .std))) .std)) (.seq (.reg []) .std)))))))
noncomputable def log_Open.code : Code := match Tryz.f16.body with | some c => c | none => .skip
theorem log_Open.eq : absFn tt 35 log_Open.ins log_Open.outs log_Open.code log_Open.ann = log_Open := by
  funext a
  kernel_rfl
theorem log_Open.ok : log_Open.ann.ok Tryz.prog 3 35 :=
  ann_ok (by kernel_rfl) (by kernel_rfl) (show ∀ c ∈ ([slab_Slab_Size.c, log_Log_read_2.c, log_Log_apply.c] : List Callee'), c.ok Tryz.prog from cs_cons slab_Slab_Size.sound (cs_cons log_Log_read_2.sound (cs_cons log_Log_apply.sound cs_nil)))
    (show ∀ c ∈ ([slab_Slab_Size.c] : List Callee'), FunQuiet c.F from cs_cons slab_Slab_Size.quiet cs_nil)
theorem log_Open.sound : log_Open.c.ok Tryz.prog := by
  refine ⟨?_, Tryz.f16, log_Open.code, Tryz.func16, rfl, by decide⟩
  have h := fn_sound tt_ok mix_ok (x := log_Open.ann) (ins := log_Open.ins) (outs := log_Open.outs) (N := 35) Tryz.func16 (c := log_Open.code) rfl rfl (by kernel_rfl) (by kernel_rfl) log_Open.ok (by decide)
  rw [log_Open.eq] at h
  exact h

/-! ### wainwright/deal.Begin: function 46 -/
noncomputable def deal_Begin : Unit → Option (Int) := fun _ =>
  some 1

def deal_Begin.ins : Spec := ⟨11, 0, [], [0], (.cons (.nilptr) .nil)⟩
def deal_Begin.outs : List Spec := [⟨11, 0, [], [2, 3], (.cons (.nilptr) (.cons (.v I) .nil))⟩]
noncomputable def deal_Begin.c : Callee' := ⟨46, mkFits deal_Begin.ins deal_Begin.outs, mkFun deal_Begin.ins deal_Begin.outs deal_Begin, mkFun_nat _ _ _⟩
theorem deal_Begin.quiet : FunQuiet deal_Begin.c.F := mkFun_quiet rfl rfl
noncomputable def deal_Begin.ann : Ann :=
  (.seq (.reg []) (.seq (.seq (.reg [.std, .obj .bool]) (.cond (.seq (.reg []) .std) .std)) (.seq (.reg [.std, .mp I .str]) .std)))
noncomputable def deal_Begin.code : Code := match Tryz.f46.body with | some c => c | none => .skip
theorem deal_Begin.eq : absFn tt 11 deal_Begin.ins deal_Begin.outs deal_Begin.code deal_Begin.ann = deal_Begin := by
  funext a
  kernel_rfl
theorem deal_Begin.ok : deal_Begin.ann.ok Tryz.prog 0 11 :=
  ann_ok (by kernel_rfl) (by kernel_rfl) (show ∀ c ∈ ([] : List Callee'), c.ok Tryz.prog from cs_nil)
    (show ∀ c ∈ ([] : List Callee'), FunQuiet c.F from cs_nil)
theorem deal_Begin.sound : deal_Begin.c.ok Tryz.prog := by
  refine ⟨?_, Tryz.f46, deal_Begin.code, Tryz.func46, rfl, by decide⟩
  have h := fn_sound tt_ok mix_ok (x := deal_Begin.ann) (ins := deal_Begin.ins) (outs := deal_Begin.outs) (N := 11) Tryz.func46 (c := deal_Begin.code) rfl rfl (by kernel_rfl) (by kernel_rfl) deal_Begin.ok (by decide)
  rw [deal_Begin.eq] at h
  exact h

/-! ### wainwright/deal.Begin: function 46 -/
noncomputable def deal_Begin_1 : ((List (List UInt8) × (List (Int × List UInt8)) × Int × Int) × Bool × Int) → Option ((((List (List UInt8) × (List (Int × List UInt8)) × Int × Int) × Bool × Int) × List (Int × List UInt8)) × Int) := fun l0 =>
  some ((((l0, ([] : List (Int × List UInt8))), 0)))

def deal_Begin_1.ins : Spec := ⟨11, 0, [], [0], (.cons (.v (.ptr (.pair (.ptr (.pair (.sl .str) (.pair (.map I .str) (.pair I I)))) (.pair .bool I)))) .nil)⟩
def deal_Begin_1.outs : List Spec := [⟨11, 0, [.box (.cons (.v (.ptr (.pair (.ptr (.pair (.sl .str) (.pair (.map I .str) (.pair I I)))) (.pair .bool I)))) (.cons (.ref 1) .nil)), .map I .str], [2, 3], (.cons (.ref 0) (.cons (.v I) .nil))⟩]
noncomputable def deal_Begin_1.c : Callee' := ⟨46, mkFits deal_Begin_1.ins deal_Begin_1.outs, mkFun deal_Begin_1.ins deal_Begin_1.outs deal_Begin_1, mkFun_nat _ _ _⟩
noncomputable def deal_Begin_1.ann : Ann :=
  (.seq (.reg []) (.seq (.seq (.reg [.std, .obj .bool]) (.cond (.seq (.reg []) .std) .std)) (.seq (.reg [.std, .mp I .str]) .std)))
noncomputable def deal_Begin_1.code : Code := match Tryz.f46.body with | some c => c | none => .skip
theorem deal_Begin_1.eq : absFn tt 11 deal_Begin_1.ins deal_Begin_1.outs deal_Begin_1.code deal_Begin_1.ann = deal_Begin_1 := by
  funext a
  kernel_rfl
theorem deal_Begin_1.ok : deal_Begin_1.ann.ok Tryz.prog 0 11 :=
  ann_ok (by kernel_rfl) (by kernel_rfl) (show ∀ c ∈ ([] : List Callee'), c.ok Tryz.prog from cs_nil)
    (show ∀ c ∈ ([] : List Callee'), FunQuiet c.F from cs_nil)
theorem deal_Begin_1.sound : deal_Begin_1.c.ok Tryz.prog := by
  refine ⟨?_, Tryz.f46, deal_Begin_1.code, Tryz.func46, rfl, by decide⟩
  have h := fn_sound tt_ok mix_ok (x := deal_Begin_1.ann) (ins := deal_Begin_1.ins) (outs := deal_Begin_1.outs) (N := 11) Tryz.func46 (c := deal_Begin_1.code) rfl rfl (by kernel_rfl) (by kernel_rfl) deal_Begin_1.ok (by decide)
  rw [deal_Begin_1.eq] at h
  exact h

/-! ### wainwright/deal.Begin: function 46 -/
noncomputable def deal_Begin_2 : ((Bool × Int) × (Int × Int) × List (List UInt8) × List (Int × List UInt8)) → Option (((Bool × Int) × (Int × Int) × List (List UInt8) × (List (Int × List UInt8)) × List (Int × List UInt8)) × Int) := fun ((l0b, l0c), (o1c, o1d), o2, o3) =>
  some (((((l0b, l0c), (o1c, o1d), o2, o3, ([] : List (Int × List UInt8))), 0)))

def deal_Begin_2.ins : Spec := ⟨11, 0, [.box (.cons (.ref 1) (.cons (.v .bool) (.cons (.v I) .nil))), .box (.cons (.ref 2) (.cons (.ref 3) (.cons (.v I) (.cons (.v I) .nil)))), .arr .str, .map I .str], [0], (.cons (.ref 0) .nil)⟩
def deal_Begin_2.outs : List Spec := [⟨11, 4, [.box (.cons (.ref 1) (.cons (.v .bool) (.cons (.v I) .nil))), .box (.cons (.ref 2) (.cons (.ref 3) (.cons (.v I) (.cons (.v I) .nil)))), .arr .str, .map I .str, .box (.cons (.ref 0) (.cons (.ref 5) .nil)), .map I .str], [2, 3], (.cons (.ref 4) (.cons (.v I) .nil))⟩]
noncomputable def deal_Begin_2.c : Callee' := ⟨46, mkFits deal_Begin_2.ins deal_Begin_2.outs, mkFun deal_Begin_2.ins deal_Begin_2.outs deal_Begin_2, mkFun_nat _ _ _⟩
noncomputable def deal_Begin_2.ann : Ann :=
  (.seq (.reg []) (.seq (.seq (.reg [.std, .obj .bool]) (.cond (.seq (.reg []) .std) .std)) (.seq (.reg [.std, .mp I .str]) .std)))
noncomputable def deal_Begin_2.code : Code := match Tryz.f46.body with | some c => c | none => .skip
theorem deal_Begin_2.eq : absFn tt 11 deal_Begin_2.ins deal_Begin_2.outs deal_Begin_2.code deal_Begin_2.ann = deal_Begin_2 := by
  funext a
  kernel_rfl
theorem deal_Begin_2.ok : deal_Begin_2.ann.ok Tryz.prog 4 11 :=
  ann_ok (by kernel_rfl) (by kernel_rfl) (show ∀ c ∈ ([] : List Callee'), c.ok Tryz.prog from cs_nil)
    (show ∀ c ∈ ([] : List Callee'), FunQuiet c.F from cs_nil)
theorem deal_Begin_2.sound : deal_Begin_2.c.ok Tryz.prog := by
  refine ⟨?_, Tryz.f46, deal_Begin_2.code, Tryz.func46, rfl, by decide⟩
  have h := fn_sound tt_ok mix_ok (x := deal_Begin_2.ann) (ins := deal_Begin_2.ins) (outs := deal_Begin_2.outs) (N := 11) Tryz.func46 (c := deal_Begin_2.code) rfl rfl (by kernel_rfl) (by kernel_rfl) deal_Begin_2.ok (by decide)
  rw [deal_Begin_2.eq] at h
  exact h

/-! ### wainwright/wainwrightlaw12.begin: function 58 -/
noncomputable def wainwrightlaw12_begin : Int → Option (((Int × Int) × List (List UInt8) × List (Int × List UInt8)) ⊕ ((Int × Int) × List (List UInt8) × (List (Int × List UInt8)) × (Bool × Int) × List (Int × List UInt8))) := fun n0 =>
  (slab_New n0).bind fun ((r10, r10_2), r10_3, r10_4) =>
    (log_Open ((r10, r10_2), r10_3, r10_4)).bind fun d => match d with
    | .inl (((r13, r13_2), r13_3, r13_4), r13_5) =>
      if (r13_5 != 0) = true then
        some (.inl (((r13, r13_2), r13_3, r13_4)))
      else
        (deal_Begin ()).bind fun r21 =>
          if (r21 != 0) = true then
            some (.inl (((r13, r13_2), r13_3, r13_4)))
          else
            some (.inl (((r13, r13_2), r13_3, r13_4)))
    | .inr ((((r13b, r13_2b), r13_3b, r13_4b, r13_5b, r13_6b), r13_7b)) =>
      if (r13_7b != 0) = true then
        some (.inl (((r13b, r13_2b), r13_3b, r13_4b)))
      else
        (deal_Begin_2 ((r13_5b, r13_6b), (r13b, r13_2b), r13_3b, r13_4b)).bind fun (((r21a, r21a_2), (r21a_3, r21a_4), r21a_5, r21a_6, r21a_7), r21a_8) =>
          if (r21a_8 != 0) = true then
            some (.inl (((r21a_3, r21a_4), r21a_5, r21a_6)))
          else
            some (.inr ((((r21a_3, r21a_4), r21a_5, r21a_6, (r21a, r21a_2), r21a_7))))

def wainwrightlaw12_begin.ins : Spec := ⟨29, 0, [], [0], (.cons (.v I) .nil)⟩
def wainwrightlaw12_begin.outs : List Spec := [⟨29, 0, [.box (.cons (.ref 1) (.cons (.ref 2) (.cons (.v I) (.cons (.v I) .nil)))), .arr .str, .map I .str], [2, 3], (.cons (.ref 0) (.cons (.nilptr) .nil))⟩, ⟨29, 0, [.box (.cons (.ref 2) (.cons (.ref 3) (.cons (.v I) (.cons (.v I) .nil)))), .box (.cons (.ref 4) (.cons (.ref 5) .nil)), .arr .str, .map I .str, .box (.cons (.ref 0) (.cons (.v .bool) (.cons (.v I) .nil))), .map I .str], [2, 3], (.cons (.ref 0) (.cons (.ref 1) .nil))⟩]
noncomputable def wainwrightlaw12_begin.c : Callee' := ⟨58, mkFits wainwrightlaw12_begin.ins wainwrightlaw12_begin.outs, mkFun wainwrightlaw12_begin.ins wainwrightlaw12_begin.outs wainwrightlaw12_begin, mkFun_nat _ _ _⟩
noncomputable def wainwrightlaw12_begin.ann : Ann :=
  (.seq (.reg []) (.seq (.reg [.std, .call [slab_New.c]]) (.seq (.reg [.std, .call [log_Open.c]]) (.seq (.seq (.reg []) (.cond (.seq (.reg []) .std) .std)) (.seq (.reg [.std, .call [deal_Begin.c, deal_Begin_2.c]]) (.seq (.seq (.reg []) (.cond (.seq (.reg []) .std) .std)) (.seq (.reg []) .std)))))))
noncomputable def wainwrightlaw12_begin.code : Code := match Tryz.f58.body with | some c => c | none => .skip
theorem wainwrightlaw12_begin.eq : absFn tt 29 wainwrightlaw12_begin.ins wainwrightlaw12_begin.outs wainwrightlaw12_begin.code wainwrightlaw12_begin.ann = wainwrightlaw12_begin := by
  funext a
  kernel_rfl
theorem wainwrightlaw12_begin.ok : wainwrightlaw12_begin.ann.ok Tryz.prog 0 29 :=
  ann_ok (by kernel_rfl) (by kernel_rfl) (show ∀ c ∈ ([slab_New.c, log_Open.c, deal_Begin.c, deal_Begin_2.c] : List Callee'), c.ok Tryz.prog from cs_cons slab_New.sound (cs_cons log_Open.sound (cs_cons deal_Begin.sound (cs_cons deal_Begin_2.sound cs_nil))))
    (show ∀ c ∈ ([] : List Callee'), FunQuiet c.F from cs_nil)
theorem wainwrightlaw12_begin.sound : wainwrightlaw12_begin.c.ok Tryz.prog := by
  refine ⟨?_, Tryz.f58, wainwrightlaw12_begin.code, Tryz.func58, rfl, by decide⟩
  have h := fn_sound tt_ok mix_ok (x := wainwrightlaw12_begin.ann) (ins := wainwrightlaw12_begin.ins) (outs := wainwrightlaw12_begin.outs) (N := 29) Tryz.func58 (c := wainwrightlaw12_begin.code) rfl rfl (by kernel_rfl) (by kernel_rfl) wainwrightlaw12_begin.ok (by decide)
  rw [wainwrightlaw12_begin.eq] at h
  exact h

/-! ### (*wainwright/log.Log).Size: function 20 -/
noncomputable def log_Log_Size : ((List (List UInt8) × (List (Int × List UInt8)) × Int × Int) × Bool × Int) → Option (Int) := fun l0 =>
  (slab_Slab_Size l0.1).bind fun r9 =>
    some r9

def log_Log_Size.ins : Spec := ⟨10, 0, [], [0], (.cons (.v (.ptr (.pair (.ptr (.pair (.sl .str) (.pair (.map I .str) (.pair I I)))) (.pair .bool I)))) .nil)⟩
def log_Log_Size.outs : List Spec := [⟨10, 0, [], [2], (.cons (.v I) .nil)⟩]
noncomputable def log_Log_Size.c : Callee' := ⟨20, mkFits log_Log_Size.ins log_Log_Size.outs, mkFun log_Log_Size.ins log_Log_Size.outs log_Log_Size, mkFun_nat _ _ _⟩
theorem log_Log_Size.quiet : FunQuiet log_Log_Size.c.F := mkFun_quiet rfl rfl
noncomputable def log_Log_Size.ann : Ann :=
  (.seq (.reg []) (.seq (.seq (.reg [.std, .obj .bool]) (.cond (.seq (.reg []) .std) .std)) (.seq (.reg [.std, .std, .std, .std, .callq [slab_Slab_Size.c]]) .std)))
noncomputable def log_Log_Size.code : Code := match Tryz.f20.body with | some c => c | none => .skip
theorem log_Log_Size.eq : absFn tt 10 log_Log_Size.ins log_Log_Size.outs log_Log_Size.code log_Log_Size.ann = log_Log_Size := by
  funext a
  kernel_rfl
theorem log_Log_Size.ok : log_Log_Size.ann.ok Tryz.prog 0 10 :=
  ann_ok (by kernel_rfl) (by kernel_rfl) (show ∀ c ∈ ([slab_Slab_Size.c] : List Callee'), c.ok Tryz.prog from cs_cons slab_Slab_Size.sound cs_nil)
    (show ∀ c ∈ ([slab_Slab_Size.c] : List Callee'), FunQuiet c.F from cs_cons slab_Slab_Size.quiet cs_nil)
theorem log_Log_Size.sound : log_Log_Size.c.ok Tryz.prog := by
  refine ⟨?_, Tryz.f20, log_Log_Size.code, Tryz.func20, rfl, by decide⟩
  have h := fn_sound tt_ok mix_ok (x := log_Log_Size.ann) (ins := log_Log_Size.ins) (outs := log_Log_Size.outs) (N := 10) Tryz.func20 (c := log_Log_Size.code) rfl rfl (by kernel_rfl) (by kernel_rfl) log_Log_Size.ok (by decide)
  rw [log_Log_Size.eq] at h
  exact h

/-! ### (*wainwright/deal.written).there: function 103 -/
noncomputable def deal_written_there : ((((List (List UInt8) × (List (Int × List UInt8)) × Int × Int) × Bool × Int) × List (Int × List UInt8)) × Int) → Option (Bool) := fun (w0, i1) =>
  if decide (i1 ≥ 0) = true then
    (log_Log_Size w0.1).bind fun r13 =>
      if decide (i1 < r13) = true then
        if decide (i1 < 1) = false then
          some ((decide (i1 > 41)))
        else
          some true
      else
        some false
  else
    some false

def deal_written_there.ins : Spec := ⟨24, 0, [], [0, 1], (.cons (.v (.ptr (.pair (.ptr (.pair (.ptr (.pair (.sl .str) (.pair (.map I .str) (.pair I I)))) (.pair .bool I))) (.map I .str)))) (.cons (.v I) .nil))⟩
def deal_written_there.outs : List Spec := [⟨24, 0, [], [4], (.cons (.v .bool) .nil)⟩]
noncomputable def deal_written_there.c : Callee' := ⟨103, mkFits deal_written_there.ins deal_written_there.outs, mkFun deal_written_there.ins deal_written_there.outs deal_written_there, mkFun_nat _ _ _⟩
theorem deal_written_there.quiet : FunQuiet deal_written_there.c.F := mkFun_quiet rfl rfl
noncomputable def deal_written_there.ann : Ann :=
  (.seq (.reg []) (.seq (.reg [.std, .std, .std, .std, .std, .std, .std, .std, .callq [log_Log_Size.c]]) .std))
noncomputable def deal_written_there.code : Code := match Tryz.f103.body with | some c => c | none => .skip
theorem deal_written_there.eq : absFn tt 24 deal_written_there.ins deal_written_there.outs deal_written_there.code deal_written_there.ann = deal_written_there := by
  funext a
  kernel_rfl
theorem deal_written_there.ok : deal_written_there.ann.ok Tryz.prog 0 24 :=
  ann_ok (by kernel_rfl) (by kernel_rfl) (show ∀ c ∈ ([log_Log_Size.c] : List Callee'), c.ok Tryz.prog from cs_cons log_Log_Size.sound cs_nil)
    (show ∀ c ∈ ([log_Log_Size.c] : List Callee'), FunQuiet c.F from cs_cons log_Log_Size.quiet cs_nil)
theorem deal_written_there.sound : deal_written_there.c.ok Tryz.prog := by
  refine ⟨?_, Tryz.f103, deal_written_there.code, Tryz.func103, rfl, by decide⟩
  have h := fn_sound tt_ok mix_ok (x := deal_written_there.ann) (ins := deal_written_there.ins) (outs := deal_written_there.outs) (N := 24) Tryz.func103 (c := deal_written_there.code) rfl rfl (by kernel_rfl) (by kernel_rfl) deal_written_there.ok (by decide)
  rw [deal_written_there.eq] at h
  exact h

/-! ### (*wainwright/deal.Deal).Write: function 53 -/
noncomputable def deal_Deal_Write : (((Bool × Int) × (List (Int × List UInt8)) × (Int × Int) × List (List UInt8) × List (Int × List UInt8)) × Int × List UInt8) → Option (((Bool × Int) × (List (Int × List UInt8)) × (Int × Int) × List (List UInt8) × List (Int × List UInt8)) × Int) := fun (((o1b, o1c), o2, (o3c, o3d), o4, o5), i1, data2) =>
  (deal_written_there ((((o4, o5, o3c, o3d), o1b, o1c), o2), i1)).bind fun r16 =>
    if (!r16) = true then
      some (((((o1b, o1c), o2, (o3c, o3d), o4, o5), 1)))
    else
      (mould_Pad (data2, 128)).bind fun (r21, r21_2) =>
        if (r21_2 != 0) = true then
          some (((((o1b, o1c), o2, (o3c, o3d), o4, o5), 1)))
        else
          some (((((o1b, o1c), mput (K := I) (V := .str) o2 i1 r21, (o3c, o3d), o4, o5), 0)))

def deal_Deal_Write.ins : Spec := ⟨33, 0, [.box (.cons (.ref 1) (.cons (.ref 2) .nil)), .box (.cons (.ref 3) (.cons (.v .bool) (.cons (.v I) .nil))), .map I .str, .box (.cons (.ref 4) (.cons (.ref 5) (.cons (.v I) (.cons (.v I) .nil)))), .arr .str, .map I .str], [0, 1, 2], (.cons (.ref 0) (.cons (.v I) (.cons (.v .str) .nil)))⟩
def deal_Deal_Write.outs : List Spec := [⟨33, 6, [.box (.cons (.ref 1) (.cons (.ref 2) .nil)), .box (.cons (.ref 3) (.cons (.v .bool) (.cons (.v I) .nil))), .map I .str, .box (.cons (.ref 4) (.cons (.ref 5) (.cons (.v I) (.cons (.v I) .nil)))), .arr .str, .map I .str], [6], (.cons (.v I) .nil)⟩]
noncomputable def deal_Deal_Write.c : Callee' := ⟨53, mkFits deal_Deal_Write.ins deal_Deal_Write.outs, mkFun deal_Deal_Write.ins deal_Deal_Write.outs deal_Deal_Write, mkFun_nat _ _ _⟩
noncomputable def deal_Deal_Write.ann : Ann :=
  (.seq (.reg []) (.seq (.seq (.reg [.std, .obj .bool, .std, .std, .std, .std, .std, .callq [deal_written_there.c]]) (.cond (.seq (.reg []) .std) .std)) (.seq (.reg [.std, .callq [mould_Pad.c]]) (.seq (.seq (.reg []) (.cond (.seq (.reg []) .std) .std)) (.seq (.reg []) (.seq (.reg []) .std))))))
noncomputable def deal_Deal_Write.code : Code := match Tryz.f53.body with | some c => c | none => .skip
theorem deal_Deal_Write.eq : absFn tt 33 deal_Deal_Write.ins deal_Deal_Write.outs deal_Deal_Write.code deal_Deal_Write.ann = deal_Deal_Write := by
  funext a
  kernel_rfl
theorem deal_Deal_Write.ok : deal_Deal_Write.ann.ok Tryz.prog 6 33 :=
  ann_ok (by kernel_rfl) (by kernel_rfl) (show ∀ c ∈ ([deal_written_there.c, mould_Pad.c] : List Callee'), c.ok Tryz.prog from cs_cons deal_written_there.sound (cs_cons mould_Pad.sound cs_nil))
    (show ∀ c ∈ ([deal_written_there.c, mould_Pad.c] : List Callee'), FunQuiet c.F from cs_cons deal_written_there.quiet (cs_cons mould_Pad.quiet cs_nil))
theorem deal_Deal_Write.sound : deal_Deal_Write.c.ok Tryz.prog := by
  refine ⟨?_, Tryz.f53, deal_Deal_Write.code, Tryz.func53, rfl, by decide⟩
  have h := fn_sound tt_ok mix_ok (x := deal_Deal_Write.ann) (ins := deal_Deal_Write.ins) (outs := deal_Deal_Write.outs) (N := 33) Tryz.func53 (c := deal_Deal_Write.code) rfl rfl (by kernel_rfl) (by kernel_rfl) deal_Deal_Write.ok (by decide)
  rw [deal_Deal_Write.eq] at h
  exact h

/-! ### (*wainwright/log.Log).Read: function 17 -/
noncomputable def log_Log_Read : (((List (List UInt8) × (List (Int × List UInt8)) × Int × Int) × Bool × Int) × Int) → Option (List UInt8) := fun (l0, i1) =>
  (slab_Slab_Read (l0.1, i1)).bind fun r12 =>
    some r12

def log_Log_Read.ins : Spec := ⟨13, 0, [], [0, 1], (.cons (.v (.ptr (.pair (.ptr (.pair (.sl .str) (.pair (.map I .str) (.pair I I)))) (.pair .bool I)))) (.cons (.v I) .nil))⟩
def log_Log_Read.outs : List Spec := [⟨13, 0, [], [4], (.cons (.v .str) .nil)⟩]
noncomputable def log_Log_Read.c : Callee' := ⟨17, mkFits log_Log_Read.ins log_Log_Read.outs, mkFun log_Log_Read.ins log_Log_Read.outs log_Log_Read, mkFun_nat _ _ _⟩
theorem log_Log_Read.quiet : FunQuiet log_Log_Read.c.F := mkFun_quiet rfl rfl
noncomputable def log_Log_Read.ann : Ann :=
  (.seq (.reg []) (.seq (.seq (.reg [.std, .obj .bool]) (.cond (.seq (.reg []) .std) .std)) (.seq (.reg [.std, .std, .std, .std, .std, .callq [slab_Slab_Read.c]]) .std)))
noncomputable def log_Log_Read.code : Code := match Tryz.f17.body with | some c => c | none => .skip
theorem log_Log_Read.eq : absFn tt 13 log_Log_Read.ins log_Log_Read.outs log_Log_Read.code log_Log_Read.ann = log_Log_Read := by
  funext a
  kernel_rfl
theorem log_Log_Read.ok : log_Log_Read.ann.ok Tryz.prog 0 13 :=
  ann_ok (by kernel_rfl) (by kernel_rfl) (show ∀ c ∈ ([slab_Slab_Read.c] : List Callee'), c.ok Tryz.prog from cs_cons slab_Slab_Read.sound cs_nil)
    (show ∀ c ∈ ([slab_Slab_Read.c] : List Callee'), FunQuiet c.F from cs_cons slab_Slab_Read.quiet cs_nil)
theorem log_Log_Read.sound : log_Log_Read.c.ok Tryz.prog := by
  refine ⟨?_, Tryz.f17, log_Log_Read.code, Tryz.func17, rfl, by decide⟩
  have h := fn_sound tt_ok mix_ok (x := log_Log_Read.ann) (ins := log_Log_Read.ins) (outs := log_Log_Read.outs) (N := 13) Tryz.func17 (c := log_Log_Read.code) rfl rfl (by kernel_rfl) (by kernel_rfl) log_Log_Read.ok (by decide)
  rw [log_Log_Read.eq] at h
  exact h

/-! ### (*wainwright/deal.written).get: function 104 -/
noncomputable def deal_written_get : ((((List (List UInt8) × (List (Int × List UInt8)) × Int × Int) × Bool × Int) × List (Int × List UInt8)) × Int) → Option (List UInt8) := fun (w0, i1) =>
  if (mget (K := I) (V := .str) w0.2 i1).isSome = true then
    some ((((mget (K := I) (V := .str) w0.2 i1).getD [])))
  else
    (log_Log_Read (w0.1, i1)).bind fun r23 =>
      some r23

def deal_written_get.ins : Spec := ⟨24, 0, [], [0, 1], (.cons (.v (.ptr (.pair (.ptr (.pair (.ptr (.pair (.sl .str) (.pair (.map I .str) (.pair I I)))) (.pair .bool I))) (.map I .str)))) (.cons (.v I) .nil))⟩
def deal_written_get.outs : List Spec := [⟨24, 0, [], [4], (.cons (.v .str) .nil)⟩]
noncomputable def deal_written_get.c : Callee' := ⟨104, mkFits deal_written_get.ins deal_written_get.outs, mkFun deal_written_get.ins deal_written_get.outs deal_written_get, mkFun_nat _ _ _⟩
theorem deal_written_get.quiet : FunQuiet deal_written_get.c.F := mkFun_quiet rfl rfl
noncomputable def deal_written_get.ann : Ann :=
  (.seq (.reg []) (.seq (.seq (.reg []) (.seq (.reg []) (.cond (.seq (.reg []) .std) .std))) (.seq (.reg [.std, .std, .std, .std, .std, .callq [log_Log_Read.c]]) .std)))
noncomputable def deal_written_get.code : Code := match Tryz.f104.body with | some c => c | none => .skip
theorem deal_written_get.eq : absFn tt 24 deal_written_get.ins deal_written_get.outs deal_written_get.code deal_written_get.ann = deal_written_get := by
  funext a
  kernel_rfl
theorem deal_written_get.ok : deal_written_get.ann.ok Tryz.prog 0 24 :=
  ann_ok (by kernel_rfl) (by kernel_rfl) (show ∀ c ∈ ([log_Log_Read.c] : List Callee'), c.ok Tryz.prog from cs_cons log_Log_Read.sound cs_nil)
    (show ∀ c ∈ ([log_Log_Read.c] : List Callee'), FunQuiet c.F from cs_cons log_Log_Read.quiet cs_nil)
theorem deal_written_get.sound : deal_written_get.c.ok Tryz.prog := by
  refine ⟨?_, Tryz.f104, deal_written_get.code, Tryz.func104, rfl, by decide⟩
  have h := fn_sound tt_ok mix_ok (x := deal_written_get.ann) (ins := deal_written_get.ins) (outs := deal_written_get.outs) (N := 24) Tryz.func104 (c := deal_written_get.code) rfl rfl (by kernel_rfl) (by kernel_rfl) deal_written_get.ok (by decide)
  rw [deal_written_get.eq] at h
  exact h

/-! ### (*wainwright/deal.Deal).Read: function 49 -/
noncomputable def deal_Deal_Read : ((((List (List UInt8) × (List (Int × List UInt8)) × Int × Int) × Bool × Int) × List (Int × List UInt8)) × Int) → Option (List UInt8 × Int) := fun (d0, i1) =>
  (deal_written_there (d0, i1)).bind fun r13 =>
    if (!r13) = true then
      some ((([], 1)))
    else
      (deal_written_get (d0, i1)).bind fun r20 =>
        some (((r20, 0)))

def deal_Deal_Read.ins : Spec := ⟨21, 0, [], [0, 1], (.cons (.v (.ptr (.pair (.ptr (.pair (.ptr (.pair (.sl .str) (.pair (.map I .str) (.pair I I)))) (.pair .bool I))) (.map I .str)))) (.cons (.v I) .nil))⟩
def deal_Deal_Read.outs : List Spec := [⟨21, 0, [], [4, 5], (.cons (.v .str) (.cons (.v I) .nil))⟩]
noncomputable def deal_Deal_Read.c : Callee' := ⟨49, mkFits deal_Deal_Read.ins deal_Deal_Read.outs, mkFun deal_Deal_Read.ins deal_Deal_Read.outs deal_Deal_Read, mkFun_nat _ _ _⟩
theorem deal_Deal_Read.quiet : FunQuiet deal_Deal_Read.c.F := mkFun_quiet rfl rfl
noncomputable def deal_Deal_Read.ann : Ann :=
  (.seq (.reg []) (.seq (.seq (.reg [.std, .obj .bool, .std, .std, .std, .std, .std, .callq [deal_written_there.c]]) (.cond (.seq (.reg []) .std) .std)) (.seq (.reg [.std, .std, .std, .std, .callq [deal_written_get.c]]) .std)))
noncomputable def deal_Deal_Read.code : Code := match Tryz.f49.body with | some c => c | none => .skip
theorem deal_Deal_Read.eq : absFn tt 21 deal_Deal_Read.ins deal_Deal_Read.outs deal_Deal_Read.code deal_Deal_Read.ann = deal_Deal_Read := by
  funext a
  kernel_rfl
theorem deal_Deal_Read.ok : deal_Deal_Read.ann.ok Tryz.prog 0 21 :=
  ann_ok (by kernel_rfl) (by kernel_rfl) (show ∀ c ∈ ([deal_written_there.c, deal_written_get.c] : List Callee'), c.ok Tryz.prog from cs_cons deal_written_there.sound (cs_cons deal_written_get.sound cs_nil))
    (show ∀ c ∈ ([deal_written_there.c, deal_written_get.c] : List Callee'), FunQuiet c.F from cs_cons deal_written_there.quiet (cs_cons deal_written_get.quiet cs_nil))
theorem deal_Deal_Read.sound : deal_Deal_Read.c.ok Tryz.prog := by
  refine ⟨?_, Tryz.f49, deal_Deal_Read.code, Tryz.func49, rfl, by decide⟩
  have h := fn_sound tt_ok mix_ok (x := deal_Deal_Read.ann) (ins := deal_Deal_Read.ins) (outs := deal_Deal_Read.outs) (N := 21) Tryz.func49 (c := deal_Deal_Read.code) rfl rfl (by kernel_rfl) (by kernel_rfl) deal_Deal_Read.ok (by decide)
  rw [deal_Deal_Read.eq] at h
  exact h

/-! ### wainwright/wainwrightref01.Zeros: function 83 -/
noncomputable def wainwrightref01_Zeros : Int → Option (List UInt8) := fun n0 =>
  if 0 ≤ n0 ∧ n0 ≤ n0 ∧ n0 * (1 : Nat) ≤ 140737488355328 ∧ n0 ≤ 9223372036854775807 then
    some (((List.replicate n0.toNat (0 : Int)).map fun (n : Int) => UInt8.ofNat n.toNat))
  else none

def wainwrightref01_Zeros.ins : Spec := ⟨6, 0, [], [0], (.cons (.v I) .nil)⟩
def wainwrightref01_Zeros.outs : List Spec := [⟨6, 0, [], [2], (.cons (.v .str) .nil)⟩]
noncomputable def wainwrightref01_Zeros.c : Callee' := ⟨83, mkFits wainwrightref01_Zeros.ins wainwrightref01_Zeros.outs, mkFun wainwrightref01_Zeros.ins wainwrightref01_Zeros.outs wainwrightref01_Zeros, mkFun_nat _ _ _⟩
theorem wainwrightref01_Zeros.quiet : FunQuiet wainwrightref01_Zeros.c.F := mkFun_quiet rfl rfl
noncomputable def wainwrightref01_Zeros.ann : Ann :=
  (.seq (.reg []) (.seq (.reg [.std, .obj (.int .u8)]) .std))
noncomputable def wainwrightref01_Zeros.code : Code := match Tryz.f83.body with | some c => c | none => .skip
theorem wainwrightref01_Zeros.eq : absFn tt 6 wainwrightref01_Zeros.ins wainwrightref01_Zeros.outs wainwrightref01_Zeros.code wainwrightref01_Zeros.ann = wainwrightref01_Zeros := by
  funext a
  kernel_rfl
theorem wainwrightref01_Zeros.ok : wainwrightref01_Zeros.ann.ok Tryz.prog 0 6 :=
  ann_ok (by kernel_rfl) (by kernel_rfl) (show ∀ c ∈ ([] : List Callee'), c.ok Tryz.prog from cs_nil)
    (show ∀ c ∈ ([] : List Callee'), FunQuiet c.F from cs_nil)
theorem wainwrightref01_Zeros.sound : wainwrightref01_Zeros.c.ok Tryz.prog := by
  refine ⟨?_, Tryz.f83, wainwrightref01_Zeros.code, Tryz.func83, rfl, by decide⟩
  have h := fn_sound tt_ok mix_ok (x := wainwrightref01_Zeros.ann) (ins := wainwrightref01_Zeros.ins) (outs := wainwrightref01_Zeros.outs) (N := 6) Tryz.func83 (c := wainwrightref01_Zeros.code) rfl rfl (by kernel_rfl) (by kernel_rfl) wainwrightref01_Zeros.ok (by decide)
  rw [wainwrightref01_Zeros.eq] at h
  exact h

/-! ### wainwright/wainwrightref02.Whole: function 31 -/
noncomputable def wainwrightref02_Whole : List UInt8 → Option (List UInt8) := fun s0 =>
  if 0 ≤ (if 128 < (s0.length : Int) then 128 else (s0.length : Int)) ∧ (if 128 < (s0.length : Int) then 128 else (s0.length : Int)) ≤ (s0.length : Int) then
    (wainwrightref01_Zeros (IntKind.i64.wrap (128 - ((s0.take ((if 128 < (s0.length : Int) then 128 else (s0.length : Int))).toNat).length : Int)))).bind fun r12 =>
      if (s0.take ((if 128 < (s0.length : Int) then 128 else (s0.length : Int))).toNat).length + r12.length ≤ 9223372036854775807 then
        some (((s0.take ((if 128 < (s0.length : Int) then 128 else (s0.length : Int))).toNat) ++ r12))
      else none
  else none

def wainwrightref02_Whole.ins : Spec := ⟨14, 0, [], [0], (.cons (.v .str) .nil)⟩
def wainwrightref02_Whole.outs : List Spec := [⟨14, 0, [], [2], (.cons (.v .str) .nil)⟩]
noncomputable def wainwrightref02_Whole.c : Callee' := ⟨31, mkFits wainwrightref02_Whole.ins wainwrightref02_Whole.outs, mkFun wainwrightref02_Whole.ins wainwrightref02_Whole.outs wainwrightref02_Whole, mkFun_nat _ _ _⟩
theorem wainwrightref02_Whole.quiet : FunQuiet wainwrightref02_Whole.c.F := mkFun_quiet rfl rfl
noncomputable def wainwrightref02_Whole.ann : Ann :=
  (.seq (.reg []) (.seq (.reg []) (.seq (.reg [.std, .std, .std, .std, .callq [wainwrightref01_Zeros.c]]) .std)))
noncomputable def wainwrightref02_Whole.code : Code := match Tryz.f31.body with | some c => c | none => .skip
theorem wainwrightref02_Whole.eq : absFn tt 14 wainwrightref02_Whole.ins wainwrightref02_Whole.outs wainwrightref02_Whole.code wainwrightref02_Whole.ann = wainwrightref02_Whole := by
  funext a
  kernel_rfl
theorem wainwrightref02_Whole.ok : wainwrightref02_Whole.ann.ok Tryz.prog 0 14 :=
  ann_ok (by kernel_rfl) (by kernel_rfl) (show ∀ c ∈ ([wainwrightref01_Zeros.c] : List Callee'), c.ok Tryz.prog from cs_cons wainwrightref01_Zeros.sound cs_nil)
    (show ∀ c ∈ ([wainwrightref01_Zeros.c] : List Callee'), FunQuiet c.F from cs_cons wainwrightref01_Zeros.quiet cs_nil)
theorem wainwrightref02_Whole.sound : wainwrightref02_Whole.c.ok Tryz.prog := by
  refine ⟨?_, Tryz.f31, wainwrightref02_Whole.code, Tryz.func31, rfl, by decide⟩
  have h := fn_sound tt_ok mix_ok (x := wainwrightref02_Whole.ann) (ins := wainwrightref02_Whole.ins) (outs := wainwrightref02_Whole.outs) (N := 14) Tryz.func31 (c := wainwrightref02_Whole.code) rfl rfl (by kernel_rfl) (by kernel_rfl) wainwrightref02_Whole.ok (by decide)
  rw [wainwrightref02_Whole.eq] at h
  exact h

/-! ### (*wainwright/deal.written).changes: function 102 -/
noncomputable def deal_written_changes.l1 : (((Bool × Int) × (List (Int × List UInt8)) × (Int × Int) × List (List UInt8) × (List (Int × List UInt8)) × List (Int × List UInt8)) × List Int × Int × Int) → Option ((((Bool × Int) × (List (Int × List UInt8)) × (Int × Int) × List (List UInt8) × (List (Int × List UInt8)) × List (Int × List UInt8)) × List Int × Int × Int) ⊕ ((Bool × Int) × (List (Int × List UInt8)) × (Int × Int) × List (List UInt8) × (List (Int × List UInt8)) × List (Int × List UInt8))) := fun (((o1b, o1c), o2, (o3c, o3d), o4, o5, c3), t12, t13, t14) =>
  if decide (t14 < t13) = true then
    if 0 ≤ t14 ∧ t14 < (t12.length : Int) then
      (log_Log_Read (((o4, o5, o3c, o3d), o1b, o1c), t12.getD t14.toNat 0)).bind fun r30 =>
        if (!((((mget (K := I) (V := .str) o2 (t12.getD t14.toNat 0)).getD [])) == r30)) = true then
          if roomOk (c3.length + (([(t12.getD t14.toNat 0, ((mget (K := I) (V := .str) o2 (t12.getD t14.toNat 0)).getD []))] : List (Int × List UInt8))).length) 24 then
            some (.inl ((((o1b, o1c), o2, (o3c, o3d), o4, o5, c3 ++ (([(t12.getD t14.toNat 0, ((mget (K := I) (V := .str) o2 (t12.getD t14.toNat 0)).getD []))] : List (Int × List UInt8)))), t12, t13, IntKind.i64.wrap (t14 + 1))))
          else none
        else
          some (.inl ((((o1b, o1c), o2, (o3c, o3d), o4, o5, c3), t12, t13, IntKind.i64.wrap (t14 + 1))))
    else none
  else
    some (.inr ((((o1b, o1c), o2, (o3c, o3d), o4, o5, c3))))

noncomputable def deal_written_changes : ((Bool × Int) × (List (Int × List UInt8)) × (Int × Int) × List (List UInt8) × List (Int × List UInt8)) → Option (((Bool × Int) × (List (Int × List UInt8)) × (Int × Int) × List (List UInt8) × List (Int × List UInt8)) × List (Int × List UInt8)) := fun ((o1b, o1c), o2, (o3c, o3d), o4, o5) =>
  (maps_Keys_map_int_string_int_string o2).bind fun r11 =>
    (slices_Sorted r11).bind fun (r12, r12_2) =>
      (loopO deal_written_changes.l1 ((((o1b, o1c), r12, (o3c, o3d), o4, o5, []), r12_2, (r12_2.length : Int), 0))).bind fun ((o1b, o1c), o2, (o3c, o3d), o4, o5, c3) =>
        some (((((o1b, o1c), o2, (o3c, o3d), o4, o5), c3)))

def deal_written_changes.ins : Spec := ⟨40, 0, [.box (.cons (.ref 1) (.cons (.ref 2) .nil)), .box (.cons (.ref 3) (.cons (.v .bool) (.cons (.v I) .nil))), .map I .str, .box (.cons (.ref 4) (.cons (.ref 5) (.cons (.v I) (.cons (.v I) .nil)))), .arr .str, .map I .str], [0], (.cons (.ref 0) .nil)⟩
def deal_written_changes.outs : List Spec := [⟨40, 6, [.box (.cons (.ref 1) (.cons (.ref 2) .nil)), .box (.cons (.ref 3) (.cons (.v .bool) (.cons (.v I) .nil))), .map I .str, .box (.cons (.ref 4) (.cons (.ref 5) (.cons (.v I) (.cons (.v I) .nil)))), .arr .str, .map I .str], [2], (.cons (.v (.sl (.st (.pair I .str)))) .nil)⟩]
noncomputable def deal_written_changes.c : Callee' := ⟨102, mkFits deal_written_changes.ins deal_written_changes.outs, mkFun deal_written_changes.ins deal_written_changes.outs deal_written_changes, mkFun_nat _ _ _⟩
noncomputable def deal_written_changes.ann : Ann :=
  (.seq (.reg []) (.seq (.reg []) (.seq (.seq (.reg [.std, .std, .std, .std, .call [maps_Keys_map_int_string_int_string.c], .call [slices_Sorted.c]]) (.block (.loop ⟨40, 6, [.box (.cons (.ref 1) (.cons (.ref 2) .nil)), .box (.cons (.ref 3) (.cons (.v .bool) (.cons (.v I) .nil))), .map I .str, .box (.cons (.ref 4) (.cons (.ref 5) (.cons (.v I) (.cons (.v I) .nil)))), .arr .str, .map I .str, .arr (.st (.pair I .str))], [0, 3, 12, 13, 14], (.cons (.ref 0) (.cons (.ref 6) (.cons (.v (.sl I)) (.cons (.v I) (.cons (.v I) .nil)))))⟩ [(.exit 0, ⟨40, 6, [.box (.cons (.ref 1) (.cons (.ref 2) .nil)), .box (.cons (.ref 3) (.cons (.v .bool) (.cons (.v I) .nil))), .map I .str, .box (.cons (.ref 4) (.cons (.ref 5) (.cons (.v I) (.cons (.v I) .nil)))), .arr .str, .map I .str, .arr (.st (.pair I .str))], [3], (.cons (.ref 6) .nil)⟩)]
  (.seq (.reg []) (.seq (.cond .std .std) (.seq (.block (.seq (.reg []) (.seq (.reg []) (.seq (.reg [.std, .std, .std, .std, .std, .std, .callq [log_Log_Read.c]]) (.cond (.reg [.std, .std, .std, .std, .inl (.st (.pair I .str)), .obj (.st (.pair I .str))]) .std))))) (.reg []))))))) (.seq (.reg []) .std))))
noncomputable def deal_written_changes.code : Code := match Tryz.f102.body with | some c => c | none => .skip
theorem deal_written_changes.eq : absFn tt 40 deal_written_changes.ins deal_written_changes.outs deal_written_changes.code deal_written_changes.ann = deal_written_changes := by
  funext a
  kernel_rfl
theorem deal_written_changes.ok : deal_written_changes.ann.ok Tryz.prog 6 40 :=
  ann_ok (by kernel_rfl) (by kernel_rfl) (show ∀ c ∈ ([maps_Keys_map_int_string_int_string.c, slices_Sorted.c, log_Log_Read.c] : List Callee'), c.ok Tryz.prog from cs_cons maps_Keys_map_int_string_int_string.sound (cs_cons slices_Sorted.sound (cs_cons log_Log_Read.sound cs_nil)))
    (show ∀ c ∈ ([log_Log_Read.c] : List Callee'), FunQuiet c.F from cs_cons log_Log_Read.quiet cs_nil)
theorem deal_written_changes.sound : deal_written_changes.c.ok Tryz.prog := by
  refine ⟨?_, Tryz.f102, deal_written_changes.code, Tryz.func102, rfl, by decide⟩
  have h := fn_sound tt_ok mix_ok (x := deal_written_changes.ann) (ins := deal_written_changes.ins) (outs := deal_written_changes.outs) (N := 40) Tryz.func102 (c := deal_written_changes.code) rfl rfl (by kernel_rfl) (by kernel_rfl) deal_written_changes.ok (by decide)
  rw [deal_written_changes.eq] at h
  exact h

/-! ### (*wainwright/deal.Deal).Changed: function 47 -/
noncomputable def deal_Deal_Changed.l1 : (((Bool × Int) × (List (Int × List UInt8)) × (Int × Int) × List (List UInt8) × (List (Int × List UInt8)) × List Int) × (List (Int × List UInt8)) × Int × Int) → Option ((((Bool × Int) × (List (Int × List UInt8)) × (Int × Int) × List (List UInt8) × (List (Int × List UInt8)) × List Int) × (List (Int × List UInt8)) × Int × Int) ⊕ ((Bool × Int) × (List (Int × List UInt8)) × (Int × Int) × List (List UInt8) × (List (Int × List UInt8)) × List Int)) := fun (((o1b, o1c), o2, (o3c, o3d), o4, o5, l3), t11, t12, t13) =>
  if decide (t13 < t12) = true then
    if 0 ≤ t13 ∧ t13 < (t11.length : Int) then
      if roomOk (l3.length + (([(t11.getD t13.toNat (0, [])).1] : List Int)).length) 8 then
        some (.inl ((((o1b, o1c), o2, (o3c, o3d), o4, o5, l3 ++ (([(t11.getD t13.toNat (0, [])).1] : List Int))), t11, t12, IntKind.i64.wrap (t13 + 1))))
      else none
    else none
  else
    some (.inr ((((o1b, o1c), o2, (o3c, o3d), o4, o5, l3))))

noncomputable def deal_Deal_Changed : ((Bool × Int) × (List (Int × List UInt8)) × (Int × Int) × List (List UInt8) × List (Int × List UInt8)) → Option (((Bool × Int) × (List (Int × List UInt8)) × (Int × Int) × List (List UInt8) × List (Int × List UInt8)) × List Int) := fun ((o1b, o1c), o2, (o3c, o3d), o4, o5) =>
  (deal_written_changes ((o1b, o1c), o2, (o3c, o3d), o4, o5)).bind fun (((r11, r11_2), r11_3, (r11_4, r11_5), r11_6, r11_7), r11_8) =>
    (loopO deal_Deal_Changed.l1 ((((r11, r11_2), r11_3, (r11_4, r11_5), r11_6, r11_7, []), r11_8, (r11_8.length : Int), 0))).bind fun ((o1b, o1c), o2, (o3c, o3d), o4, o5, l3) =>
      some (((((o1b, o1c), o2, (o3c, o3d), o4, o5), l3)))

def deal_Deal_Changed.ins : Spec := ⟨24, 0, [.box (.cons (.ref 1) (.cons (.ref 2) .nil)), .box (.cons (.ref 3) (.cons (.v .bool) (.cons (.v I) .nil))), .map I .str, .box (.cons (.ref 4) (.cons (.ref 5) (.cons (.v I) (.cons (.v I) .nil)))), .arr .str, .map I .str], [0], (.cons (.ref 0) .nil)⟩
def deal_Deal_Changed.outs : List Spec := [⟨24, 6, [.box (.cons (.ref 1) (.cons (.ref 2) .nil)), .box (.cons (.ref 3) (.cons (.v .bool) (.cons (.v I) .nil))), .map I .str, .box (.cons (.ref 4) (.cons (.ref 5) (.cons (.v I) (.cons (.v I) .nil)))), .arr .str, .map I .str], [2], (.cons (.v (.sl I)) .nil)⟩]
noncomputable def deal_Deal_Changed.c : Callee' := ⟨47, mkFits deal_Deal_Changed.ins deal_Deal_Changed.outs, mkFun deal_Deal_Changed.ins deal_Deal_Changed.outs deal_Deal_Changed, mkFun_nat _ _ _⟩
noncomputable def deal_Deal_Changed.ann : Ann :=
  (.seq (.reg []) (.seq (.seq (.reg [.std, .obj .bool]) (.cond (.seq (.reg []) .std) .std)) (.seq (.reg []) (.seq (.seq (.reg [.std, .std, .std, .call [deal_written_changes.c]]) (.block (.loop ⟨24, 6, [.box (.cons (.ref 1) (.cons (.ref 2) .nil)), .box (.cons (.ref 3) (.cons (.v .bool) (.cons (.v I) .nil))), .map I .str, .box (.cons (.ref 4) (.cons (.ref 5) (.cons (.v I) (.cons (.v I) .nil)))), .arr .str, .map I .str, .arr I], [3, 11, 12, 13], (.cons (.ref 6) (.cons (.v (.sl (.st (.pair I .str)))) (.cons (.v I) (.cons (.v I) .nil))))⟩ [(.exit 0, ⟨24, 6, [.box (.cons (.ref 1) (.cons (.ref 2) .nil)), .box (.cons (.ref 3) (.cons (.v .bool) (.cons (.v I) .nil))), .map I .str, .box (.cons (.ref 4) (.cons (.ref 5) (.cons (.v I) (.cons (.v I) .nil)))), .arr .str, .map I .str, .arr I], [3], (.cons (.ref 6) .nil)⟩)]
  (.seq (.reg []) (.seq (.cond .std .std) (.seq (.block (.seq (.reg []) (.reg [.std, .std, .std, .inl I, .obj I]))) (.reg []))))))) (.seq (.reg []) .std)))))
noncomputable def deal_Deal_Changed.code : Code := match Tryz.f47.body with | some c => c | none => .skip
theorem deal_Deal_Changed.eq : absFn tt 24 deal_Deal_Changed.ins deal_Deal_Changed.outs deal_Deal_Changed.code deal_Deal_Changed.ann = deal_Deal_Changed := by
  funext a
  kernel_rfl
theorem deal_Deal_Changed.ok : deal_Deal_Changed.ann.ok Tryz.prog 6 24 :=
  ann_ok (by kernel_rfl) (by kernel_rfl) (show ∀ c ∈ ([deal_written_changes.c] : List Callee'), c.ok Tryz.prog from cs_cons deal_written_changes.sound cs_nil)
    (show ∀ c ∈ ([] : List Callee'), FunQuiet c.F from cs_nil)
theorem deal_Deal_Changed.sound : deal_Deal_Changed.c.ok Tryz.prog := by
  refine ⟨?_, Tryz.f47, deal_Deal_Changed.code, Tryz.func47, rfl, by decide⟩
  have h := fn_sound tt_ok mix_ok (x := deal_Deal_Changed.ann) (ins := deal_Deal_Changed.ins) (outs := deal_Deal_Changed.outs) (N := 24) Tryz.func47 (c := deal_Deal_Changed.code) rfl rfl (by kernel_rfl) (by kernel_rfl) deal_Deal_Changed.ok (by decide)
  rw [deal_Deal_Changed.eq] at h
  exact h

/-! ### (*wainwright/log.Log).may: function 71 -/
noncomputable def log_Log_may : (((List (List UInt8) × (List (Int × List UInt8)) × Int × Int) × Bool × Int) × List (Int × List UInt8)) → Option (Int) := fun (l0, c1) =>
  if l0.2.1 = true then
    some 16
  else
    if decide ((c1.length : Int) > 40) = true then
      some 13
    else
      (log_Log_right (l0, c1)).bind fun r20 =>
        if (!r20) = true then
          some 1
        else
          some 0

def log_Log_may.ins : Spec := ⟨22, 0, [], [0, 1], (.cons (.v (.ptr (.pair (.ptr (.pair (.sl .str) (.pair (.map I .str) (.pair I I)))) (.pair .bool I)))) (.cons (.v (.sl (.st (.pair I .str)))) .nil))⟩
def log_Log_may.outs : List Spec := [⟨22, 0, [], [4], (.cons (.v I) .nil)⟩]
noncomputable def log_Log_may.c : Callee' := ⟨71, mkFits log_Log_may.ins log_Log_may.outs, mkFun log_Log_may.ins log_Log_may.outs log_Log_may, mkFun_nat _ _ _⟩
theorem log_Log_may.quiet : FunQuiet log_Log_may.c.F := mkFun_quiet rfl rfl
noncomputable def log_Log_may.ann : Ann :=
  (.seq (.reg []) (.seq (.block (.seq (.reg [.std, .obj .bool]) (.cond (.seq (.reg []) .std) (.seq (.reg []) (.cond (.seq (.reg []) .std) (.seq (.reg []) (.cond (.seq (.reg []) .std) (.seq (.reg [.std, .std, .callq [log_Log_right.c]]) (.cond (.seq (.reg []) .std) .std))))))))) (.seq (.reg []) .std)))
noncomputable def log_Log_may.code : Code := match Tryz.f71.body with | some c => c | none => .skip
theorem log_Log_may.eq : absFn tt 22 log_Log_may.ins log_Log_may.outs log_Log_may.code log_Log_may.ann = log_Log_may := by
  funext a
  kernel_rfl
theorem log_Log_may.ok : log_Log_may.ann.ok Tryz.prog 0 22 :=
  ann_ok (by kernel_rfl) (by kernel_rfl) (show ∀ c ∈ ([log_Log_right.c] : List Callee'), c.ok Tryz.prog from cs_cons log_Log_right.sound cs_nil)
    (show ∀ c ∈ ([log_Log_right.c] : List Callee'), FunQuiet c.F from cs_cons log_Log_right.quiet cs_nil)
theorem log_Log_may.sound : log_Log_may.c.ok Tryz.prog := by
  refine ⟨?_, Tryz.f71, log_Log_may.code, Tryz.func71, rfl, by decide⟩
  have h := fn_sound tt_ok mix_ok (x := log_Log_may.ann) (ins := log_Log_may.ins) (outs := log_Log_may.outs) (N := 22) Tryz.func71 (c := log_Log_may.code) rfl rfl (by kernel_rfl) (by kernel_rfl) log_Log_may.ok (by decide)
  rw [log_Log_may.eq] at h
  exact h

/-! ### (*wainwright/log.Log).Commit$1: function 73 -/
noncomputable def log_Log_Commit_1 : (((Bool × Int) × (Int × Int) × List (List UInt8) × List (Int × List UInt8)) × List (Int × List UInt8)) → Option (((Bool × Int) × (Int × Int) × List (List UInt8) × List (Int × List UInt8)) × Int) := fun (((o1b, o1c), (o2c, o2d), o3, o4), t1) =>
  (log_Log_write (((o1b, o1c), (o2c, o2d), o3, o4), t1)).bind fun (((r5, r5_2), (r5_3, r5_4), r5_5, r5_6), r5_7) =>
    some (((((r5, r5_2), (r5_3, r5_4), r5_5, r5_6), r5_7)))

def log_Log_Commit_1.ins : Spec := ⟨6, 0, [.box (.cons (.ref 1) .nil), .box (.cons (.ref 2) (.cons (.v .bool) (.cons (.v I) .nil))), .box (.cons (.ref 3) (.cons (.ref 4) (.cons (.v I) (.cons (.v I) .nil)))), .arr .str, .map I .str], [0, 1], (.cons (.ref 0) (.cons (.v (.ptr (.sl (.st (.pair I .str))))) .nil))⟩
def log_Log_Commit_1.outs : List Spec := [⟨6, 5, [.box (.cons (.ref 1) .nil), .box (.cons (.ref 2) (.cons (.v .bool) (.cons (.v I) .nil))), .box (.cons (.ref 3) (.cons (.ref 4) (.cons (.v I) (.cons (.v I) .nil)))), .arr .str, .map I .str], [2], (.cons (.v I) .nil)⟩]
noncomputable def log_Log_Commit_1.c : Callee' := ⟨73, mkFits log_Log_Commit_1.ins log_Log_Commit_1.outs, mkFun log_Log_Commit_1.ins log_Log_Commit_1.outs log_Log_Commit_1, mkFun_nat _ _ _⟩
noncomputable def log_Log_Commit_1.ann : Ann :=
  (.seq (.reg []) (.seq (.reg [.std, .std, .call [log_Log_write.c]]) .std))
noncomputable def log_Log_Commit_1.code : Code := match Tryz.f73.body with | some c => c | none => .skip
theorem log_Log_Commit_1.eq : absFn tt 6 log_Log_Commit_1.ins log_Log_Commit_1.outs log_Log_Commit_1.code log_Log_Commit_1.ann = log_Log_Commit_1 := by
  funext a
  kernel_rfl
theorem log_Log_Commit_1.ok : log_Log_Commit_1.ann.ok Tryz.prog 5 6 :=
  ann_ok (by kernel_rfl) (by kernel_rfl) (show ∀ c ∈ ([log_Log_write.c] : List Callee'), c.ok Tryz.prog from cs_cons log_Log_write.sound cs_nil)
    (show ∀ c ∈ ([] : List Callee'), FunQuiet c.F from cs_nil)
theorem log_Log_Commit_1.sound : log_Log_Commit_1.c.ok Tryz.prog := by
  refine ⟨?_, Tryz.f73, log_Log_Commit_1.code, Tryz.func73, rfl, by decide⟩
  have h := fn_sound tt_ok mix_ok (x := log_Log_Commit_1.ann) (ins := log_Log_Commit_1.ins) (outs := log_Log_Commit_1.outs) (N := 6) Tryz.func73 (c := log_Log_Commit_1.code) rfl rfl (by kernel_rfl) (by kernel_rfl) log_Log_Commit_1.ok (by decide)
  rw [log_Log_Commit_1.eq] at h
  exact h

/-! ### wainwright/log.numbers: function 77 -/
noncomputable def log_numbers.l1 : (List Int × (List (Int × List UInt8)) × Int × Int) → Option ((List Int × (List (Int × List UInt8)) × Int × Int) ⊕ (List Int)) := fun (l3, t6, t7, t8) =>
  if decide (t8 < t7) = true then
    if 0 ≤ t8 ∧ t8 < (t6.length : Int) then
      if roomOk (l3.length + (([(t6.getD t8.toNat (0, [])).1] : List Int)).length) 8 then
        some (.inl ((l3 ++ (([(t6.getD t8.toNat (0, [])).1] : List Int)), t6, t7, IntKind.i64.wrap (t8 + 1))))
      else none
    else none
  else
    some (.inr l3)

noncomputable def log_numbers : (List (Int × List UInt8)) → Option (List Int) := fun c0 =>
  (loopO log_numbers.l1 (([], c0, (c0.length : Int), 0))).bind fun l3 =>
    some l3

def log_numbers.ins : Spec := ⟨19, 0, [], [0], (.cons (.v (.sl (.st (.pair I .str)))) .nil)⟩
def log_numbers.outs : List Spec := [⟨19, 0, [], [2], (.cons (.v (.sl I)) .nil)⟩]
noncomputable def log_numbers.c : Callee' := ⟨77, mkFits log_numbers.ins log_numbers.outs, mkFun log_numbers.ins log_numbers.outs log_numbers, mkFun_nat _ _ _⟩
theorem log_numbers.quiet : FunQuiet log_numbers.c.F := mkFun_quiet rfl rfl
noncomputable def log_numbers.ann : Ann :=
  (.seq (.reg []) (.seq (.reg []) (.seq (.seq (.reg []) (.block (.loop ⟨19, 0, [.arr I], [3, 6, 7, 8], (.cons (.ref 0) (.cons (.v (.sl (.st (.pair I .str)))) (.cons (.v I) (.cons (.v I) .nil))))⟩ [(.exit 0, ⟨19, 0, [.arr I], [3], (.cons (.ref 0) .nil)⟩)]
  (.seq (.reg []) (.seq (.cond .std .std) (.seq (.block (.seq (.reg []) (.reg [.std, .std, .std, .inl I, .obj I]))) (.reg []))))))) (.seq (.reg []) .std))))
noncomputable def log_numbers.code : Code := match Tryz.f77.body with | some c => c | none => .skip
theorem log_numbers.eq : absFn tt 19 log_numbers.ins log_numbers.outs log_numbers.code log_numbers.ann = log_numbers := by
  funext a
  kernel_rfl
theorem log_numbers.ok : log_numbers.ann.ok Tryz.prog 0 19 :=
  ann_ok (by kernel_rfl) (by kernel_rfl) (show ∀ c ∈ ([] : List Callee'), c.ok Tryz.prog from cs_nil)
    (show ∀ c ∈ ([] : List Callee'), FunQuiet c.F from cs_nil)
theorem log_numbers.sound : log_numbers.c.ok Tryz.prog := by
  refine ⟨?_, Tryz.f77, log_numbers.code, Tryz.func77, rfl, by decide⟩
  have h := fn_sound tt_ok mix_ok (x := log_numbers.ann) (ins := log_numbers.ins) (outs := log_numbers.outs) (N := 19) Tryz.func77 (c := log_numbers.code) rfl rfl (by kernel_rfl) (by kernel_rfl) log_numbers.ok (by decide)
  rw [log_numbers.eq] at h
  exact h

/-! ### (*wainwright/log.Log).Commit$2: function 75 -/
noncomputable def log_Log_Commit_2 : (((Bool × Int) × (Int × Int) × List (List UInt8) × List (Int × List UInt8)) × List (Int × List UInt8)) → Option (((Bool × Int) × (Int × Int) × List (List UInt8) × List (Int × List UInt8)) × Int) := fun (((o1b, o1c), (o2c, o2d), o3, o4), t1) =>
  (log_numbers t1).bind fun r5 =>
    (log_headOf r5).bind fun r6 =>
      (log_Log_write (((o1b, o1c), (o2c, o2d), o3, o4), r6)).bind fun (((r7, r7_2), (r7_3, r7_4), r7_5, r7_6), r7_7) =>
        some (((((r7, r7_2), (r7_3, r7_4), r7_5, r7_6), r7_7)))

def log_Log_Commit_2.ins : Spec := ⟨8, 0, [.box (.cons (.ref 1) .nil), .box (.cons (.ref 2) (.cons (.v .bool) (.cons (.v I) .nil))), .box (.cons (.ref 3) (.cons (.ref 4) (.cons (.v I) (.cons (.v I) .nil)))), .arr .str, .map I .str], [0, 1], (.cons (.ref 0) (.cons (.v (.ptr (.sl (.st (.pair I .str))))) .nil))⟩
def log_Log_Commit_2.outs : List Spec := [⟨8, 5, [.box (.cons (.ref 1) .nil), .box (.cons (.ref 2) (.cons (.v .bool) (.cons (.v I) .nil))), .box (.cons (.ref 3) (.cons (.ref 4) (.cons (.v I) (.cons (.v I) .nil)))), .arr .str, .map I .str], [2], (.cons (.v I) .nil)⟩]
noncomputable def log_Log_Commit_2.c : Callee' := ⟨75, mkFits log_Log_Commit_2.ins log_Log_Commit_2.outs, mkFun log_Log_Commit_2.ins log_Log_Commit_2.outs log_Log_Commit_2, mkFun_nat _ _ _⟩
noncomputable def log_Log_Commit_2.ann : Ann :=
  (.seq (.reg []) (.seq (.drw [.std, .std, .callq [log_numbers.c], .callq [log_headOf.c], .call [log_Log_write.c]]) .std))
noncomputable def log_Log_Commit_2.code : Code := match Tryz.f75.body with | some c => c | none => .skip
theorem log_Log_Commit_2.eq : absFn tt 8 log_Log_Commit_2.ins log_Log_Commit_2.outs log_Log_Commit_2.code log_Log_Commit_2.ann = log_Log_Commit_2 := by
  funext a
  kernel_rfl
theorem log_Log_Commit_2.ok : log_Log_Commit_2.ann.ok Tryz.prog 5 8 :=
  ann_ok (by kernel_rfl) (by kernel_rfl) (show ∀ c ∈ ([log_numbers.c, log_headOf.c, log_Log_write.c] : List Callee'), c.ok Tryz.prog from cs_cons log_numbers.sound (cs_cons log_headOf.sound (cs_cons log_Log_write.sound cs_nil)))
    (show ∀ c ∈ ([log_numbers.c, log_headOf.c] : List Callee'), FunQuiet c.F from cs_cons log_numbers.quiet (cs_cons log_headOf.quiet cs_nil))
theorem log_Log_Commit_2.sound : log_Log_Commit_2.c.ok Tryz.prog := by
  refine ⟨?_, Tryz.f75, log_Log_Commit_2.code, Tryz.func75, rfl, by decide⟩
  have h := fn_sound tt_ok mix_ok (x := log_Log_Commit_2.ann) (ins := log_Log_Commit_2.ins) (outs := log_Log_Commit_2.outs) (N := 8) Tryz.func75 (c := log_Log_Commit_2.code) rfl rfl (by kernel_rfl) (by kernel_rfl) log_Log_Commit_2.ok (by decide)
  rw [log_Log_Commit_2.eq] at h
  exact h

/-! ### (*wainwright/log.Log).Commit$3: function 78 -/
noncomputable def log_Log_Commit_3 : (((Bool × Int) × (Int × Int) × List (List UInt8) × List (Int × List UInt8)) × List (Int × List UInt8)) → Option (((Bool × Int) × (Int × Int) × List (List UInt8) × List (Int × List UInt8)) × Int) := fun (((o1b, o1c), (o2c, o2d), o3, o4), t1) =>
  (log_Log_apply (((o1b, o1c), (o2c, o2d), o3, o4), t1)).bind fun (((r5, r5_2), (r5_3, r5_4), r5_5, r5_6), r5_7) =>
    some (((((r5, r5_2), (r5_3, r5_4), r5_5, r5_6), r5_7)))

def log_Log_Commit_3.ins : Spec := ⟨6, 0, [.box (.cons (.ref 1) .nil), .box (.cons (.ref 2) (.cons (.v .bool) (.cons (.v I) .nil))), .box (.cons (.ref 3) (.cons (.ref 4) (.cons (.v I) (.cons (.v I) .nil)))), .arr .str, .map I .str], [0, 1], (.cons (.ref 0) (.cons (.v (.ptr (.sl (.st (.pair I .str))))) .nil))⟩
def log_Log_Commit_3.outs : List Spec := [⟨6, 5, [.box (.cons (.ref 1) .nil), .box (.cons (.ref 2) (.cons (.v .bool) (.cons (.v I) .nil))), .box (.cons (.ref 3) (.cons (.ref 4) (.cons (.v I) (.cons (.v I) .nil)))), .arr .str, .map I .str], [2], (.cons (.v I) .nil)⟩]
noncomputable def log_Log_Commit_3.c : Callee' := ⟨78, mkFits log_Log_Commit_3.ins log_Log_Commit_3.outs, mkFun log_Log_Commit_3.ins log_Log_Commit_3.outs log_Log_Commit_3, mkFun_nat _ _ _⟩
noncomputable def log_Log_Commit_3.ann : Ann :=
  (.seq (.reg []) (.seq (.reg [.std, .std, .call [log_Log_apply.c]]) .std))
noncomputable def log_Log_Commit_3.code : Code := match Tryz.f78.body with | some c => c | none => .skip
theorem log_Log_Commit_3.eq : absFn tt 6 log_Log_Commit_3.ins log_Log_Commit_3.outs log_Log_Commit_3.code log_Log_Commit_3.ann = log_Log_Commit_3 := by
  funext a
  kernel_rfl
theorem log_Log_Commit_3.ok : log_Log_Commit_3.ann.ok Tryz.prog 5 6 :=
  ann_ok (by kernel_rfl) (by kernel_rfl) (show ∀ c ∈ ([log_Log_apply.c] : List Callee'), c.ok Tryz.prog from cs_cons log_Log_apply.sound cs_nil)
    (show ∀ c ∈ ([] : List Callee'), FunQuiet c.F from cs_nil)
theorem log_Log_Commit_3.sound : log_Log_Commit_3.c.ok Tryz.prog := by
  refine ⟨?_, Tryz.f78, log_Log_Commit_3.code, Tryz.func78, rfl, by decide⟩
  have h := fn_sound tt_ok mix_ok (x := log_Log_Commit_3.ann) (ins := log_Log_Commit_3.ins) (outs := log_Log_Commit_3.outs) (N := 6) Tryz.func78 (c := log_Log_Commit_3.code) rfl rfl (by kernel_rfl) (by kernel_rfl) log_Log_Commit_3.ok (by decide)
  rw [log_Log_Commit_3.eq] at h
  exact h

/-! ### wainwright/log.all: function 72 -/
noncomputable def log_all_1 : ((List (Int × List UInt8)) × (Bool × Int) × (List (Int × List UInt8)) × (Int × Int) × List (List UInt8) × List (Int × List UInt8)) → Option (((List (Int × List UInt8)) × (Bool × Int) × (List (Int × List UInt8)) × (Int × Int) × List (List UInt8) × List (Int × List UInt8)) × Int) := fun (o2, (o3b, o3c), o4, (o5c, o5d), o6, o7) =>
  (log_Log_Commit_1 (((o3b, o3c), (o5c, o5d), o6, o7), o4)).bind fun (((r13, r13_2), (r13_3, r13_4), r13_5, r13_6), r13_7) =>
    if (r13_7 != 0) = true then
      some ((((o2, (r13, r13_2), o4, (r13_3, r13_4), r13_5, r13_6), r13_7)))
    else
      (log_Log_Commit_2 (((r13, r13_2), (r13_3, r13_4), r13_5, r13_6), o2)).bind fun (((r13a, r13a_2), (r13a_3, r13a_4), r13a_5, r13a_6), r13a_7) =>
        if (r13a_7 != 0) = true then
          some ((((o2, (r13a, r13a_2), o4, (r13a_3, r13a_4), r13a_5, r13a_6), r13a_7)))
        else
          (log_Log_Commit_3 (((r13a, r13a_2), (r13a_3, r13a_4), r13a_5, r13a_6), o2)).bind fun (((r13b, r13b_2), (r13b_3, r13b_4), r13b_5, r13b_6), r13b_7) =>
            if (r13b_7 != 0) = true then
              some ((((o2, (r13b, r13b_2), o4, (r13b_3, r13b_4), r13b_5, r13b_6), r13b_7)))
            else
              some ((((o2, (r13b, r13b_2), o4, (r13b_3, r13b_4), r13b_5, r13b_6), 0)))

def log_all_1.ins : Spec := ⟨18, 0, [.box (.cons (.ref 3) .nil), .box (.cons (.ref 4) .nil), .box (.cons (.v (.sl (.st (.pair I .str)))) .nil), .box (.cons (.ref 5) (.cons (.v .bool) (.cons (.v I) .nil))), .arr (.st (.pair I .str)), .box (.cons (.ref 6) (.cons (.ref 7) (.cons (.v I) (.cons (.v I) .nil)))), .arr .str, .map I .str], [0], (.cons (.fsl (.cons (.fn (.func 73) .nil (.cons (.ref 0) (.cons (.ref 1) .nil))) (.cons (.fn (.func 75) .nil (.cons (.ref 0) (.cons (.ref 2) .nil))) (.cons (.fn (.func 78) .nil (.cons (.ref 0) (.cons (.ref 2) .nil))) .nil)))) .nil)⟩
def log_all_1.outs : List Spec := [⟨18, 8, [.box (.cons (.ref 3) .nil), .box (.cons (.ref 4) .nil), .box (.cons (.v (.sl (.st (.pair I .str)))) .nil), .box (.cons (.ref 5) (.cons (.v .bool) (.cons (.v I) .nil))), .arr (.st (.pair I .str)), .box (.cons (.ref 6) (.cons (.ref 7) (.cons (.v I) (.cons (.v I) .nil)))), .arr .str, .map I .str], [2], (.cons (.v I) .nil)⟩]
noncomputable def log_all_1.c : Callee' := ⟨72, mkFits log_all_1.ins log_all_1.outs, mkFun log_all_1.ins log_all_1.outs log_all_1, mkFun_nat _ _ _⟩
noncomputable def log_all_1.ann : Ann :=
  (.seq (.reg []) (.seq (.seq (.reg []) (.block (.unroll (.seq (.reg []) (.seq (.cond .std .std) (.seq (.block (.seq (.reg []) (.seq (.reg [.std, .call [log_Log_Commit_1.c, log_Log_Commit_2.c, log_Log_Commit_3.c]]) (.seq (.reg []) (.cond (.seq (.reg []) .std) .std))))) (.reg [])))) (.unroll (.seq (.reg []) (.seq (.cond .std .std) (.seq (.block (.seq (.reg []) (.seq (.reg [.std, .call [log_Log_Commit_1.c, log_Log_Commit_2.c, log_Log_Commit_3.c]]) (.seq (.reg []) (.cond (.seq (.reg []) .std) .std))))) (.reg [])))) (.unroll (.seq (.reg []) (.seq (.cond .std .std) (.seq (.block (.seq (.reg []) (.seq (.reg [.std, .call [log_Log_Commit_1.c, log_Log_Commit_2.c, log_Log_Commit_3.c]]) (.seq (.reg []) (.cond (.seq (.reg []) .std) .std))))) (.reg [])))) (.unroll (.seq (.reg []) (.seq (.cond .std .std) (.seq (.block (.seq (.reg []) (.seq (.reg [.std, .call [log_Log_Commit_1.c, log_Log_Commit_2.c, log_Log_Commit_3.c]]) (.seq (.reg []) (.cond (.seq (.reg []) .std) .std))))) (.reg [])))) .std)))))) (.seq (.reg []) .std)))
noncomputable def log_all_1.code : Code := match Tryz.f72.body with | some c => c | none => .skip
theorem log_all_1.eq : absFn tt 18 log_all_1.ins log_all_1.outs log_all_1.code log_all_1.ann = log_all_1 := by
  funext a
  kernel_rfl
theorem log_all_1.ok : log_all_1.ann.ok Tryz.prog 8 18 :=
  ann_ok (by kernel_rfl) (by kernel_rfl) (show ∀ c ∈ ([log_Log_Commit_1.c, log_Log_Commit_2.c, log_Log_Commit_3.c, log_Log_Commit_1.c, log_Log_Commit_2.c, log_Log_Commit_3.c, log_Log_Commit_1.c, log_Log_Commit_2.c, log_Log_Commit_3.c, log_Log_Commit_1.c, log_Log_Commit_2.c, log_Log_Commit_3.c] : List Callee'), c.ok Tryz.prog from cs_cons log_Log_Commit_1.sound (cs_cons log_Log_Commit_2.sound (cs_cons log_Log_Commit_3.sound (cs_cons log_Log_Commit_1.sound (cs_cons log_Log_Commit_2.sound (cs_cons log_Log_Commit_3.sound (cs_cons log_Log_Commit_1.sound (cs_cons log_Log_Commit_2.sound (cs_cons log_Log_Commit_3.sound (cs_cons log_Log_Commit_1.sound (cs_cons log_Log_Commit_2.sound (cs_cons log_Log_Commit_3.sound cs_nil))))))))))))
    (show ∀ c ∈ ([] : List Callee'), FunQuiet c.F from cs_nil)
theorem log_all_1.sound : log_all_1.c.ok Tryz.prog := by
  refine ⟨?_, Tryz.f72, log_all_1.code, Tryz.func72, rfl, by decide⟩
  have h := fn_sound tt_ok mix_ok (x := log_all_1.ann) (ins := log_all_1.ins) (outs := log_all_1.outs) (N := 18) Tryz.func72 (c := log_all_1.code) rfl rfl (by kernel_rfl) (by kernel_rfl) log_all_1.ok (by decide)
  rw [log_all_1.eq] at h
  exact h

/-! ### (*wainwright/log.Log).Commit: function 18 -/
noncomputable def log_Log_Commit.l1 : (((Bool × Int) × (Int × Int) × List (List UInt8) × (List (Int × List UInt8)) × (List (Int × List UInt8)) × List (Int × List UInt8)) × (List (Int × List UInt8)) × Int × Int) → Option ((((Bool × Int) × (Int × Int) × List (List UInt8) × (List (Int × List UInt8)) × (List (Int × List UInt8)) × List (Int × List UInt8)) × (List (Int × List UInt8)) × Int × Int) ⊕ ((Bool × Int) × (Int × Int) × List (List UInt8) × (List (Int × List UInt8)) × (List (Int × List UInt8)) × List (Int × List UInt8))) := fun (((o0b, o0c), (o1c, o1d), o2, o3, c3, o7), t21, t22, t23) =>
  if decide (t23 < t22) = true then
    if 0 ≤ t23 ∧ t23 < (t21.length : Int) then
      if roomOk (o7.length + (([(IntKind.i64.wrap (2 + t23), (t21.getD t23.toNat (0, [])).2)] : List (Int × List UInt8))).length) 24 then
        some (.inl ((((o0b, o0c), (o1c, o1d), o2, o3, c3, o7 ++ (([(IntKind.i64.wrap (2 + t23), (t21.getD t23.toNat (0, [])).2)] : List (Int × List UInt8)))), t21, t22, IntKind.i64.wrap (t23 + 1))))
      else none
    else none
  else
    some (.inr ((((o0b, o0c), (o1c, o1d), o2, o3, c3, o7))))

noncomputable def log_Log_Commit : (((Bool × Int) × (Int × Int) × List (List UInt8) × List (Int × List UInt8)) × List (Int × List UInt8)) → Option (((Bool × Int) × (Int × Int) × List (List UInt8) × List (Int × List UInt8)) × Int) := fun (((l0b, l0c), (o1c, o1d), o2, o3), c1) =>
  (log_Log_may (((o2, o3, o1c, o1d), l0b, l0c), c1)).bind fun r12 =>
    if (r12 != 0) = false then
      if ((c1.length : Int) == 0) = true then
        some (((((l0b, l0c), (o1c, o1d), o2, o3), r12)))
      else
        (loopO log_Log_Commit.l1 ((((l0b, l0c), (o1c, o1d), o2, o3, c1, []), c1, (c1.length : Int), 0))).bind fun ((o0b, o0c), (o1c, o1d), o2, o3, c3, o7) =>
          (log_all_1 (c3, (o0b, o0c), o7, (o1c, o1d), o2, o3)).bind fun ((r41, (r41_2, r41_3), r41_4, (r41_5, r41_6), r41_7, r41_8), r41_9) =>
            if (r41_9 != 0) = true then
              some (((((true, r41_3), (r41_5, r41_6), r41_7, r41_8), r41_9)))
            else
              some (((((r41_2, IntKind.i64.wrap (r41_3 + 1)), (r41_5, r41_6), r41_7, r41_8), 0)))
    else
      some (((((l0b, l0c), (o1c, o1d), o2, o3), r12)))

def log_Log_Commit.ins : Spec := ⟨55, 0, [.box (.cons (.ref 1) (.cons (.v .bool) (.cons (.v I) .nil))), .box (.cons (.ref 2) (.cons (.ref 3) (.cons (.v I) (.cons (.v I) .nil)))), .arr .str, .map I .str], [0, 1], (.cons (.ref 0) (.cons (.v (.sl (.st (.pair I .str)))) .nil))⟩
def log_Log_Commit.outs : List Spec := [⟨55, 4, [.box (.cons (.ref 1) (.cons (.v .bool) (.cons (.v I) .nil))), .box (.cons (.ref 2) (.cons (.ref 3) (.cons (.v I) (.cons (.v I) .nil)))), .arr .str, .map I .str], [4], (.cons (.v I) .nil)⟩]
noncomputable def log_Log_Commit.c : Callee' := ⟨18, mkFits log_Log_Commit.ins log_Log_Commit.outs, mkFun log_Log_Commit.ins log_Log_Commit.outs log_Log_Commit, mkFun_nat _ _ _⟩
noncomputable def log_Log_Commit.ann : Ann :=
  (.seq (.reg []) (.seq (.seq (.reg [.std, .std, .callq [log_Log_may.c]]) (.seq (.reg []) (.cond (.seq (.reg []) .std) .std))) (.seq (.reg []) (.seq (.seq (.reg []) (.block (.loop ⟨55, 4, [.box (.cons (.ref 1) (.cons (.v .bool) (.cons (.v I) .nil))), .box (.cons (.ref 2) (.cons (.ref 3) (.cons (.v I) (.cons (.v I) .nil)))), .arr .str, .map I .str, .box (.cons (.ref 0) .nil), .box (.cons (.v (.sl (.st (.pair I .str)))) .nil), .box (.cons (.ref 7) .nil), .arr (.st (.pair I .str))], [2, 3, 6, 21, 22, 23], (.cons (.ref 4) (.cons (.ref 5) (.cons (.ref 6) (.cons (.v (.sl (.st (.pair I .str)))) (.cons (.v I) (.cons (.v I) .nil))))))⟩ [(.exit 0, ⟨55, 4, [.box (.cons (.ref 1) (.cons (.v .bool) (.cons (.v I) .nil))), .box (.cons (.ref 2) (.cons (.ref 3) (.cons (.v I) (.cons (.v I) .nil)))), .arr .str, .map I .str, .box (.cons (.ref 0) .nil), .box (.cons (.v (.sl (.st (.pair I .str)))) .nil), .box (.cons (.ref 7) .nil), .arr (.st (.pair I .str))], [2, 3, 6], (.cons (.ref 4) (.cons (.ref 5) (.cons (.ref 6) .nil)))⟩)]
  (.seq (.reg []) (.seq (.cond .std .std) (.seq (.block (.seq (.reg []) (.reg [.std, .std, .std, .std, .std, .std, .inl (.st (.pair I .str)), .obj (.st (.pair I .str))]))) (.reg []))))))) (.seq (.reg [.std, .std, .std, .std, .call [log_all_1.c]]) (.seq (.seq (.reg []) (.cond (.seq (.reg []) (.seq (.reg []) .std)) .std)) (.seq (.reg []) (.seq (.reg []) .std))))))))
noncomputable def log_Log_Commit.code : Code := match Tryz.f18.body with | some c => c | none => .skip
theorem log_Log_Commit.eq : absFn tt 55 log_Log_Commit.ins log_Log_Commit.outs log_Log_Commit.code log_Log_Commit.ann = log_Log_Commit := by
  funext a
  kernel_rfl
theorem log_Log_Commit.ok : log_Log_Commit.ann.ok Tryz.prog 4 55 :=
  ann_ok (by kernel_rfl) (by kernel_rfl) (show ∀ c ∈ ([log_Log_may.c, log_all_1.c] : List Callee'), c.ok Tryz.prog from cs_cons log_Log_may.sound (cs_cons log_all_1.sound cs_nil))
    (show ∀ c ∈ ([log_Log_may.c] : List Callee'), FunQuiet c.F from cs_cons log_Log_may.quiet cs_nil)
theorem log_Log_Commit.sound : log_Log_Commit.c.ok Tryz.prog := by
  refine ⟨?_, Tryz.f18, log_Log_Commit.code, Tryz.func18, rfl, by decide⟩
  have h := fn_sound tt_ok mix_ok (x := log_Log_Commit.ann) (ins := log_Log_Commit.ins) (outs := log_Log_Commit.outs) (N := 55) Tryz.func18 (c := log_Log_Commit.code) rfl rfl (by kernel_rfl) (by kernel_rfl) log_Log_Commit.ok (by decide)
  rw [log_Log_Commit.eq] at h
  exact h

/-! ### (*wainwright/deal.Deal).Undo: function 52 -/
noncomputable def deal_Deal_Undo : ((Bool × Int) × (List (Int × List UInt8)) × (Int × Int) × List (List UInt8) × List (Int × List UInt8)) → Option ((Bool × Int) × (List (Int × List UInt8)) × (Int × Int) × List (List UInt8) × List (Int × List UInt8)) := fun ((o1b, o1c), o2, (o3c, o3d), o4, o5) =>
  some ((((o1b, o1c), ([] : List (Int × List UInt8)), (o3c, o3d), o4, o5)))

def deal_Deal_Undo.ins : Spec := ⟨9, 0, [.box (.cons (.ref 1) (.cons (.ref 2) .nil)), .box (.cons (.ref 3) (.cons (.v .bool) (.cons (.v I) .nil))), .map I .str, .box (.cons (.ref 4) (.cons (.ref 5) (.cons (.v I) (.cons (.v I) .nil)))), .arr .str, .map I .str], [0], (.cons (.ref 0) .nil)⟩
def deal_Deal_Undo.outs : List Spec := [⟨9, 6, [.box (.cons (.ref 1) (.cons (.ref 2) .nil)), .box (.cons (.ref 3) (.cons (.v .bool) (.cons (.v I) .nil))), .map I .str, .box (.cons (.ref 4) (.cons (.ref 5) (.cons (.v I) (.cons (.v I) .nil)))), .arr .str, .map I .str], [], .nil⟩]
noncomputable def deal_Deal_Undo.c : Callee' := ⟨52, mkFits deal_Deal_Undo.ins deal_Deal_Undo.outs, mkFun deal_Deal_Undo.ins deal_Deal_Undo.outs deal_Deal_Undo, mkFun_nat _ _ _⟩
noncomputable def deal_Deal_Undo.ann : Ann :=
  (.seq (.reg [.std, .obj .bool]) (.cond (.reg []) .std))
noncomputable def deal_Deal_Undo.code : Code := match Tryz.f52.body with | some c => c | none => .skip
theorem deal_Deal_Undo.eq : absFn tt 9 deal_Deal_Undo.ins deal_Deal_Undo.outs deal_Deal_Undo.code deal_Deal_Undo.ann = deal_Deal_Undo := by
  funext a
  kernel_rfl
theorem deal_Deal_Undo.ok : deal_Deal_Undo.ann.ok Tryz.prog 6 9 :=
  ann_ok (by kernel_rfl) (by kernel_rfl) (show ∀ c ∈ ([] : List Callee'), c.ok Tryz.prog from cs_nil)
    (show ∀ c ∈ ([] : List Callee'), FunQuiet c.F from cs_nil)
theorem deal_Deal_Undo.sound : deal_Deal_Undo.c.ok Tryz.prog := by
  refine ⟨?_, Tryz.f52, deal_Deal_Undo.code, Tryz.func52, rfl, by decide⟩
  have h := fn_sound tt_ok mix_ok (x := deal_Deal_Undo.ann) (ins := deal_Deal_Undo.ins) (outs := deal_Deal_Undo.outs) (N := 9) Tryz.func52 (c := deal_Deal_Undo.code) rfl rfl (by kernel_rfl) (by kernel_rfl) deal_Deal_Undo.ok (by decide)
  rw [deal_Deal_Undo.eq] at h
  exact h

/-! ### (*wainwright/deal.Deal).Commit: function 56 -/
noncomputable def deal_Deal_Commit : ((Bool × Int) × (List (Int × List UInt8)) × (Int × Int) × List (List UInt8) × List (Int × List UInt8)) → Option (((Bool × Int) × (List (Int × List UInt8)) × (Int × Int) × List (List UInt8) × List (Int × List UInt8)) × Int) := fun ((o1b, o1c), o2, (o3c, o3d), o4, o5) =>
  (deal_written_changes ((o1b, o1c), o2, (o3c, o3d), o4, o5)).bind fun (((r14, r14_2), r14_3, (r14_4, r14_5), r14_6, r14_7), r14_8) =>
    (log_Log_Commit (((r14, r14_2), (r14_4, r14_5), r14_6, r14_7), r14_8)).bind fun (((r15, r15_2), (r15_3, r15_4), r15_5, r15_6), r15_7) =>
      if (r15_7 != 13) = true then
        (deal_Deal_Undo ((r15, r15_2), r14_3, (r15_3, r15_4), r15_5, r15_6)).bind fun ((r19, r19_2), r19_3, (r19_4, r19_5), r19_6, r19_7) =>
          some (((((r19, r19_2), r19_3, (r19_4, r19_5), r19_6, r19_7), r15_7)))
      else
        some (((((r15, r15_2), r14_3, (r15_3, r15_4), r15_5, r15_6), r15_7)))

def deal_Deal_Commit.ins : Spec := ⟨21, 0, [.box (.cons (.ref 1) (.cons (.ref 2) .nil)), .box (.cons (.ref 3) (.cons (.v .bool) (.cons (.v I) .nil))), .map I .str, .box (.cons (.ref 4) (.cons (.ref 5) (.cons (.v I) (.cons (.v I) .nil)))), .arr .str, .map I .str], [0], (.cons (.ref 0) .nil)⟩
def deal_Deal_Commit.outs : List Spec := [⟨21, 6, [.box (.cons (.ref 1) (.cons (.ref 2) .nil)), .box (.cons (.ref 3) (.cons (.v .bool) (.cons (.v I) .nil))), .map I .str, .box (.cons (.ref 4) (.cons (.ref 5) (.cons (.v I) (.cons (.v I) .nil)))), .arr .str, .map I .str], [2], (.cons (.v I) .nil)⟩]
noncomputable def deal_Deal_Commit.c : Callee' := ⟨56, mkFits deal_Deal_Commit.ins deal_Deal_Commit.outs, mkFun deal_Deal_Commit.ins deal_Deal_Commit.outs deal_Deal_Commit, mkFun_nat _ _ _⟩
noncomputable def deal_Deal_Commit.ann : Ann :=
  (.seq (.reg []) (.seq (.seq (.reg [.std, .obj .bool]) (.cond (.seq (.reg []) .std) .std)) (.seq (.drw [.std, .std, .std, .std, .std, .std, .std, .std, .call [deal_written_changes.c], .call [log_Log_Commit.c]]) (.seq (.seq (.reg []) (.cond (.reg [.std, .call [deal_Deal_Undo.c]]) .std)) (.seq (.reg []) .std)))))
noncomputable def deal_Deal_Commit.code : Code := match Tryz.f56.body with | some c => c | none => .skip
theorem deal_Deal_Commit.eq : absFn tt 21 deal_Deal_Commit.ins deal_Deal_Commit.outs deal_Deal_Commit.code deal_Deal_Commit.ann = deal_Deal_Commit := by
  funext a
  kernel_rfl
theorem deal_Deal_Commit.ok : deal_Deal_Commit.ann.ok Tryz.prog 6 21 :=
  ann_ok (by kernel_rfl) (by kernel_rfl) (show ∀ c ∈ ([deal_written_changes.c, log_Log_Commit.c, deal_Deal_Undo.c] : List Callee'), c.ok Tryz.prog from cs_cons deal_written_changes.sound (cs_cons log_Log_Commit.sound (cs_cons deal_Deal_Undo.sound cs_nil)))
    (show ∀ c ∈ ([] : List Callee'), FunQuiet c.F from cs_nil)
theorem deal_Deal_Commit.sound : deal_Deal_Commit.c.ok Tryz.prog := by
  refine ⟨?_, Tryz.f56, deal_Deal_Commit.code, Tryz.func56, rfl, by decide⟩
  have h := fn_sound tt_ok mix_ok (x := deal_Deal_Commit.ann) (ins := deal_Deal_Commit.ins) (outs := deal_Deal_Commit.outs) (N := 21) Tryz.func56 (c := deal_Deal_Commit.code) rfl rfl (by kernel_rfl) (by kernel_rfl) deal_Deal_Commit.ok (by decide)
  rw [deal_Deal_Commit.eq] at h
  exact h

/-! ### wainwright/wainwrightlaw12.lives: function 48 -/
noncomputable def wainwrightlaw12_lives : Unit → Option (Bool) := fun _ =>
  (wainwrightlaw12_begin 64).bind fun d => match d with
  | .inl ((r6, r6_2), r6_3, r6_4) =>
    some false
  | .inr (((r6b, r6_2b), r6_3b, r6_4b, (r6_5b, r6_6b), r6_7b)) =>
    (deal_Deal_Write (((r6_5b, r6_6b), r6_7b, (r6b, r6_2b), r6_3b, r6_4b), 60, ([97] : List UInt8))).bind fun (((r13, r13_2), r13_3, (r13_4, r13_5), r13_6, r13_7), r13_8) =>
      if (r13_8 != 0) = true then
        some false
      else
        (deal_Deal_Read ((((r13_6, r13_7, r13_4, r13_5), r13, r13_2), r13_3), 60)).bind fun (r18, r18_2) =>
          if (r18_2 == 0) = true then
            (wainwrightref02_Whole ([97] : List UInt8)).bind fun r25 =>
              if (r18 == r25) = true then
                (deal_Deal_Changed ((r13, r13_2), r13_3, (r13_4, r13_5), r13_6, r13_7)).bind fun (((r30, r30_2), r30_3, (r30_4, r30_5), r30_6, r30_7), r30_8) =>
                  if ((r30_8.length : Int) == 1) = true then
                    (deal_Deal_Commit ((r30, r30_2), r30_3, (r30_4, r30_5), r30_6, r30_7)).bind fun (((r36, r36_2), r36_3, (r36_4, r36_5), r36_6, r36_7), r36_8) =>
                      if (r36_8 == 0) = true then
                        (slab_Slab_Read ((r36_6, r36_7, r36_4, r36_5), 60)).bind fun r41 =>
                          if (r41 == r18) = true then
                            (deal_Deal_Changed ((r36, r36_2), r36_3, (r36_4, r36_5), r36_6, r36_7)).bind fun (((r47, r47_2), r47_3, (r47_4, r47_5), r47_6, r47_7), r47_8) =>
                              some ((((r47_8.length : Int) == 0)))
                          else
                            some false
                      else
                        some false
                  else
                    some false
              else
                some false
          else
            some false

def wainwrightlaw12_lives.ins : Spec := ⟨51, 0, [], [], .nil⟩
def wainwrightlaw12_lives.outs : List Spec := [⟨51, 0, [], [0], (.cons (.v .bool) .nil)⟩]
noncomputable def wainwrightlaw12_lives.c : Callee' := ⟨48, mkFits wainwrightlaw12_lives.ins wainwrightlaw12_lives.outs, mkFun wainwrightlaw12_lives.ins wainwrightlaw12_lives.outs wainwrightlaw12_lives, mkFun_nat _ _ _⟩
theorem wainwrightlaw12_lives.quiet : FunQuiet wainwrightlaw12_lives.c.F := mkFun_quiet rfl rfl
noncomputable def wainwrightlaw12_lives.ann : Ann :=
  (.seq (.reg []) (.seq (.reg [.call [wainwrightlaw12_begin.c]]) (.seq (.seq (.reg [.std, .obj .bool, .std, .std, .call [deal_Deal_Write.c]]) (.cond (.seq (.reg []) .std) .std)) (.seq (.reg [.std, .callq [deal_Deal_Read.c]]) (.seq (.reg [.std, .std, .std, .std, .callq [wainwrightref02_Whole.c], .std, .std, .std, .std, .call [deal_Deal_Changed.c], .std, .std, .std, .std, .std, .call [deal_Deal_Commit.c], .std, .std, .std, .std, .callq [slab_Slab_Read.c], .std, .std, .std, .std, .std, .call [deal_Deal_Changed.c]]) .std)))))
noncomputable def wainwrightlaw12_lives.code : Code := match Tryz.f48.body with | some c => c | none => .skip
theorem wainwrightlaw12_lives.eq : absFn tt 51 wainwrightlaw12_lives.ins wainwrightlaw12_lives.outs wainwrightlaw12_lives.code wainwrightlaw12_lives.ann = wainwrightlaw12_lives := by
  funext a
  kernel_rfl
theorem wainwrightlaw12_lives.ok : wainwrightlaw12_lives.ann.ok Tryz.prog 0 51 :=
  ann_ok (by kernel_rfl) (by kernel_rfl) (show ∀ c ∈ ([wainwrightlaw12_begin.c, deal_Deal_Write.c, deal_Deal_Read.c, wainwrightref02_Whole.c, deal_Deal_Changed.c, deal_Deal_Commit.c, slab_Slab_Read.c, deal_Deal_Changed.c] : List Callee'), c.ok Tryz.prog from cs_cons wainwrightlaw12_begin.sound (cs_cons deal_Deal_Write.sound (cs_cons deal_Deal_Read.sound (cs_cons wainwrightref02_Whole.sound (cs_cons deal_Deal_Changed.sound (cs_cons deal_Deal_Commit.sound (cs_cons slab_Slab_Read.sound (cs_cons deal_Deal_Changed.sound cs_nil))))))))
    (show ∀ c ∈ ([deal_Deal_Read.c, wainwrightref02_Whole.c, slab_Slab_Read.c] : List Callee'), FunQuiet c.F from cs_cons deal_Deal_Read.quiet (cs_cons wainwrightref02_Whole.quiet (cs_cons slab_Slab_Read.quiet cs_nil)))
theorem wainwrightlaw12_lives.sound : wainwrightlaw12_lives.c.ok Tryz.prog := by
  refine ⟨?_, Tryz.f48, wainwrightlaw12_lives.code, Tryz.func48, rfl, by decide⟩
  have h := fn_sound tt_ok mix_ok (x := wainwrightlaw12_lives.ann) (ins := wainwrightlaw12_lives.ins) (outs := wainwrightlaw12_lives.outs) (N := 51) Tryz.func48 (c := wainwrightlaw12_lives.code) rfl rfl (by kernel_rfl) (by kernel_rfl) wainwrightlaw12_lives.ok (by decide)
  rw [wainwrightlaw12_lives.eq] at h
  exact h

/-! ### (*wainwright/deal.Deal).Read: function 49 -/
noncomputable def deal_Deal_Read_1 : Int → Option (List UInt8 × Int) := fun i1 =>
  some ((([], 1)))

def deal_Deal_Read_1.ins : Spec := ⟨21, 0, [], [0, 1], (.cons (.nilptr) (.cons (.v I) .nil))⟩
def deal_Deal_Read_1.outs : List Spec := [⟨21, 0, [], [4, 5], (.cons (.v .str) (.cons (.v I) .nil))⟩]
noncomputable def deal_Deal_Read_1.c : Callee' := ⟨49, mkFits deal_Deal_Read_1.ins deal_Deal_Read_1.outs, mkFun deal_Deal_Read_1.ins deal_Deal_Read_1.outs deal_Deal_Read_1, mkFun_nat _ _ _⟩
theorem deal_Deal_Read_1.quiet : FunQuiet deal_Deal_Read_1.c.F := mkFun_quiet rfl rfl
noncomputable def deal_Deal_Read_1.ann : Ann :=
  (.seq (.reg []) (.seq (.seq (.reg [.std, .obj .bool]) (.cond (.seq (.reg []) .std) .std)) (.seq (.reg []) .std)))
noncomputable def deal_Deal_Read_1.code : Code := match Tryz.f49.body with | some c => c | none => .skip
theorem deal_Deal_Read_1.eq : absFn tt 21 deal_Deal_Read_1.ins deal_Deal_Read_1.outs deal_Deal_Read_1.code deal_Deal_Read_1.ann = deal_Deal_Read_1 := by
  funext a
  kernel_rfl
theorem deal_Deal_Read_1.ok : deal_Deal_Read_1.ann.ok Tryz.prog 0 21 :=
  ann_ok (by kernel_rfl) (by kernel_rfl) (show ∀ c ∈ ([] : List Callee'), c.ok Tryz.prog from cs_nil)
    (show ∀ c ∈ ([] : List Callee'), FunQuiet c.F from cs_nil)
theorem deal_Deal_Read_1.sound : deal_Deal_Read_1.c.ok Tryz.prog := by
  refine ⟨?_, Tryz.f49, deal_Deal_Read_1.code, Tryz.func49, rfl, by decide⟩
  have h := fn_sound tt_ok mix_ok (x := deal_Deal_Read_1.ann) (ins := deal_Deal_Read_1.ins) (outs := deal_Deal_Read_1.outs) (N := 21) Tryz.func49 (c := deal_Deal_Read_1.code) rfl rfl (by kernel_rfl) (by kernel_rfl) deal_Deal_Read_1.ok (by decide)
  rw [deal_Deal_Read_1.eq] at h
  exact h

/-! ### (*wainwright/deal.Deal).Crown: function 50 -/
noncomputable def deal_Deal_Crown : Unit → Option ((Int × Int × Int) × Int) := fun _ =>
  some ((((0, 0, 0), 1)))

def deal_Deal_Crown.ins : Spec := ⟨32, 0, [], [0], (.cons (.nilptr) .nil)⟩
def deal_Deal_Crown.outs : List Spec := [⟨33, 0, [], [32, 3], (.cons (.v (.st (.pair I (.pair I I)))) (.cons (.v I) .nil))⟩]
noncomputable def deal_Deal_Crown.c : Callee' := ⟨50, mkFits deal_Deal_Crown.ins deal_Deal_Crown.outs, mkFun deal_Deal_Crown.ins deal_Deal_Crown.outs deal_Deal_Crown, mkFun_nat _ _ _⟩
theorem deal_Deal_Crown.quiet : FunQuiet deal_Deal_Crown.c.F := mkFun_quiet rfl rfl
noncomputable def deal_Deal_Crown.ann : Ann :=
  (.seq (.reg []) (.seq (.seq (.reg [.std, .obj .bool]) (.cond (.seq (.reg []) .std) .std)) (.seq (.reg []) (.seq (.seq (.drw [.std, .std, .std, .std, .std, .std, .std, .std, .std, .std, .callq []]) (.cond (.seq (.reg []) .std) .std)) (.seq (.reg []) .std)))))
noncomputable def deal_Deal_Crown.code : Code := match Tryz.f50.body with | some c => c | none => .skip
theorem deal_Deal_Crown.eq : absFnR tt 32 [(2, 81)] deal_Deal_Crown.ins deal_Deal_Crown.outs deal_Deal_Crown.code deal_Deal_Crown.ann = deal_Deal_Crown := by
  funext a
  kernel_rfl
theorem deal_Deal_Crown.ok : deal_Deal_Crown.ann.ok Tryz.prog 0 32 :=
  ann_ok (by kernel_rfl) (by kernel_rfl) (show ∀ c ∈ ([] : List Callee'), c.ok Tryz.prog from cs_nil)
    (show ∀ c ∈ ([] : List Callee'), FunQuiet c.F from cs_nil)
theorem deal_Deal_Crown.sound : deal_Deal_Crown.c.ok Tryz.prog := by
  refine ⟨?_, Tryz.f50, deal_Deal_Crown.code, Tryz.func50, rfl, by decide⟩
  have h := fn_soundR tt_ok mix_ok (x := deal_Deal_Crown.ann) (ins := deal_Deal_Crown.ins) (outs := deal_Deal_Crown.outs) (N := 32) (cells := [(2, 81)]) Tryz.func50 (c := deal_Deal_Crown.code) rfl rfl (by kernel_rfl) (by kernel_rfl) (by kernel_rfl) deal_Deal_Crown.ok (by decide)
  rw [deal_Deal_Crown.eq] at h
  exact h

/-! ### (*wainwright/deal.Deal).place: function 106 -/
noncomputable def deal_Deal_place : Int → Option (Int × List UInt8 × Int × Int) := fun node1 =>
  some (((0, [], 0, 1)))

def deal_Deal_place.ins : Spec := ⟨29, 0, [], [0, 1], (.cons (.nilptr) (.cons (.v I) .nil))⟩
def deal_Deal_place.outs : List Spec := [⟨29, 0, [], [4, 5, 6, 7], (.cons (.v I) (.cons (.v .str) (.cons (.v I) (.cons (.v I) .nil))))⟩]
noncomputable def deal_Deal_place.c : Callee' := ⟨106, mkFits deal_Deal_place.ins deal_Deal_place.outs, mkFun deal_Deal_place.ins deal_Deal_place.outs deal_Deal_place, mkFun_nat _ _ _⟩
theorem deal_Deal_place.quiet : FunQuiet deal_Deal_place.c.F := mkFun_quiet rfl rfl
noncomputable def deal_Deal_place.ann : Ann :=
  (.seq (.reg []) (.seq (.seq (.reg [.std, .obj .bool]) (.cond (.seq (.reg []) .std) .std)) (.seq (.reg []) (.seq (.seq (.reg []) (.cond (.seq (.reg []) .std) .std)) (.seq (.reg []) .std)))))
noncomputable def deal_Deal_place.code : Code := match Tryz.f106.body with | some c => c | none => .skip
theorem deal_Deal_place.eq : absFn tt 29 deal_Deal_place.ins deal_Deal_place.outs deal_Deal_place.code deal_Deal_place.ann = deal_Deal_place := by
  funext a
  kernel_rfl
theorem deal_Deal_place.ok : deal_Deal_place.ann.ok Tryz.prog 0 29 :=
  ann_ok (by kernel_rfl) (by kernel_rfl) (show ∀ c ∈ ([] : List Callee'), c.ok Tryz.prog from cs_nil)
    (show ∀ c ∈ ([] : List Callee'), FunQuiet c.F from cs_nil)
theorem deal_Deal_place.sound : deal_Deal_place.c.ok Tryz.prog := by
  refine ⟨?_, Tryz.f106, deal_Deal_place.code, Tryz.func106, rfl, by decide⟩
  have h := fn_sound tt_ok mix_ok (x := deal_Deal_place.ann) (ins := deal_Deal_place.ins) (outs := deal_Deal_place.outs) (N := 29) Tryz.func106 (c := deal_Deal_place.code) rfl rfl (by kernel_rfl) (by kernel_rfl) deal_Deal_place.ok (by decide)
  rw [deal_Deal_place.eq] at h
  exact h

/-! ### wainwright/cards.there: function 152 -/
noncomputable def cards_there : (List UInt8 × Int) → Option (Bool) := fun (block0, k1) =>
  if ((block0.length : Int) == 128) = true then
    if decide (k1 ≥ 0) = true then
      some ((decide (k1 < 4)))
    else
      some false
  else
    some false

def cards_there.ins : Spec := ⟨16, 0, [], [0, 1], (.cons (.v .str) (.cons (.v I) .nil))⟩
def cards_there.outs : List Spec := [⟨16, 0, [], [4], (.cons (.v .bool) .nil)⟩]
noncomputable def cards_there.c : Callee' := ⟨152, mkFits cards_there.ins cards_there.outs, mkFun cards_there.ins cards_there.outs cards_there, mkFun_nat _ _ _⟩
theorem cards_there.quiet : FunQuiet cards_there.c.F := mkFun_quiet rfl rfl
noncomputable def cards_there.ann : Ann :=
  (.seq (.reg []) (.seq (.reg []) .std))
noncomputable def cards_there.code : Code := match Tryz.f152.body with | some c => c | none => .skip
theorem cards_there.eq : absFn tt 16 cards_there.ins cards_there.outs cards_there.code cards_there.ann = cards_there := by
  funext a
  kernel_rfl
theorem cards_there.ok : cards_there.ann.ok Tryz.prog 0 16 :=
  ann_ok (by kernel_rfl) (by kernel_rfl) (show ∀ c ∈ ([] : List Callee'), c.ok Tryz.prog from cs_nil)
    (show ∀ c ∈ ([] : List Callee'), FunQuiet c.F from cs_nil)
theorem cards_there.sound : cards_there.c.ok Tryz.prog := by
  refine ⟨?_, Tryz.f152, cards_there.code, Tryz.func152, rfl, by decide⟩
  have h := fn_sound tt_ok mix_ok (x := cards_there.ann) (ins := cards_there.ins) (outs := cards_there.outs) (N := 16) Tryz.func152 (c := cards_there.code) rfl rfl (by kernel_rfl) (by kernel_rfl) cards_there.ok (by decide)
  rw [cards_there.eq] at h
  exact h

/-! ### wainwright/cards.Pick: function 107 -/
noncomputable def cards_Pick : (List UInt8 × Int) → Option (List UInt8 × Int) := fun (block0, k1) =>
  (cards_there (block0, k1)).bind fun r8 =>
    if (!r8) = true then
      some ((([], 1)))
    else
      if 0 ≤ IntKind.i64.wrap (32 * k1) ∧ IntKind.i64.wrap (32 * k1) ≤ IntKind.i64.wrap ((IntKind.i64.wrap (32 * k1)) + 32) ∧ IntKind.i64.wrap ((IntKind.i64.wrap (32 * k1)) + 32) ≤ (block0.length : Int) then
        some ((((block0.take (IntKind.i64.wrap ((IntKind.i64.wrap (32 * k1)) + 32)).toNat).drop (IntKind.i64.wrap (32 * k1)).toNat, 0)))
      else none

def cards_Pick.ins : Spec := ⟨17, 0, [], [0, 1], (.cons (.v .str) (.cons (.v I) .nil))⟩
def cards_Pick.outs : List Spec := [⟨17, 0, [], [4, 5], (.cons (.v .str) (.cons (.v I) .nil))⟩]
noncomputable def cards_Pick.c : Callee' := ⟨107, mkFits cards_Pick.ins cards_Pick.outs, mkFun cards_Pick.ins cards_Pick.outs cards_Pick, mkFun_nat _ _ _⟩
theorem cards_Pick.quiet : FunQuiet cards_Pick.c.F := mkFun_quiet rfl rfl
noncomputable def cards_Pick.ann : Ann :=
  (.seq (.reg []) (.seq (.seq (.reg [.std, .std, .callq [cards_there.c]]) (.cond (.seq (.reg []) .std) .std)) (.seq (.reg []) .std)))
noncomputable def cards_Pick.code : Code := match Tryz.f107.body with | some c => c | none => .skip
theorem cards_Pick.eq : absFn tt 17 cards_Pick.ins cards_Pick.outs cards_Pick.code cards_Pick.ann = cards_Pick := by
  funext a
  kernel_rfl
theorem cards_Pick.ok : cards_Pick.ann.ok Tryz.prog 0 17 :=
  ann_ok (by kernel_rfl) (by kernel_rfl) (show ∀ c ∈ ([cards_there.c] : List Callee'), c.ok Tryz.prog from cs_cons cards_there.sound cs_nil)
    (show ∀ c ∈ ([cards_there.c] : List Callee'), FunQuiet c.F from cs_cons cards_there.quiet cs_nil)
theorem cards_Pick.sound : cards_Pick.c.ok Tryz.prog := by
  refine ⟨?_, Tryz.f107, cards_Pick.code, Tryz.func107, rfl, by decide⟩
  have h := fn_sound tt_ok mix_ok (x := cards_Pick.ann) (ins := cards_Pick.ins) (outs := cards_Pick.outs) (N := 17) Tryz.func107 (c := cards_Pick.code) rfl rfl (by kernel_rfl) (by kernel_rfl) cards_Pick.ok (by decide)
  rw [cards_Pick.eq] at h
  exact h

/-! ### (*wainwright/deal.Deal).Card: function 51 -/
noncomputable def deal_Deal_Card : Int → Option ((Int × Int × Int × Int × List Int × Int × Int × (List (Int × Int × Int)) × Int) × Int) := fun node1 =>
  (deal_Deal_place node1).bind fun (r14, r14_2, r14_3, r14_4) =>
    if (r14_4 != 0) = true then
      some ((((0, 0, 0, 0, ([] : List Int), 0, 0, ([] : List (Int × Int × Int)), 0), r14_4)))
    else
      (cards_Pick (r14_2, r14_3)).bind fun (r26, r26_2) =>
        if (r26_2 != 0) = true then
          some ((((0, 0, 0, 0, ([] : List Int), 0, 0, ([] : List (Int × Int × Int)), 0), r26_2)))
        else none

def deal_Deal_Card.ins : Spec := ⟨37, 0, [], [0, 1], (.cons (.nilptr) (.cons (.v I) .nil))⟩
def deal_Deal_Card.outs : List Spec := [⟨38, 0, [], [37, 5], (.cons (.v (.st (.pair I (.pair I (.pair I (.pair I (.pair (.sl I) (.pair I (.pair I (.pair (.sl (.st (.pair I (.pair I I)))) I)))))))))) (.cons (.v I) .nil))⟩]
noncomputable def deal_Deal_Card.c : Callee' := ⟨51, mkFits deal_Deal_Card.ins deal_Deal_Card.outs, mkFun deal_Deal_Card.ins deal_Deal_Card.outs deal_Deal_Card, mkFun_nat _ _ _⟩
theorem deal_Deal_Card.quiet : FunQuiet deal_Deal_Card.c.F := mkFun_quiet rfl rfl
noncomputable def deal_Deal_Card.ann : Ann :=
  (.seq (.reg []) (.seq (.reg [.std, .std, .callq [deal_Deal_place.c]]) (.seq (.seq (.reg []) (.cond (.seq (.reg []) .std) .std)) (.seq (.reg [.std, .std, .callq [cards_Pick.c]]) (.seq (.seq (.reg []) (.cond (.seq (.reg []) .std) .std)) (.seq (.reg []) .std))))))
noncomputable def deal_Deal_Card.code : Code := match Tryz.f51.body with | some c => c | none => .skip
theorem deal_Deal_Card.eq : absFnR tt 37 [(4, 84)] deal_Deal_Card.ins deal_Deal_Card.outs deal_Deal_Card.code deal_Deal_Card.ann = deal_Deal_Card := by
  funext a
  kernel_rfl
theorem deal_Deal_Card.ok : deal_Deal_Card.ann.ok Tryz.prog 0 37 :=
  ann_ok (by kernel_rfl) (by kernel_rfl) (show ∀ c ∈ ([deal_Deal_place.c, cards_Pick.c] : List Callee'), c.ok Tryz.prog from cs_cons deal_Deal_place.sound (cs_cons cards_Pick.sound cs_nil))
    (show ∀ c ∈ ([deal_Deal_place.c, cards_Pick.c] : List Callee'), FunQuiet c.F from cs_cons deal_Deal_place.quiet (cs_cons cards_Pick.quiet cs_nil))
theorem deal_Deal_Card.sound : deal_Deal_Card.c.ok Tryz.prog := by
  refine ⟨?_, Tryz.f51, deal_Deal_Card.code, Tryz.func51, rfl, by decide⟩
  have h := fn_soundR tt_ok mix_ok (x := deal_Deal_Card.ann) (ins := deal_Deal_Card.ins) (outs := deal_Deal_Card.outs) (N := 37) (cells := [(4, 84)]) Tryz.func51 (c := deal_Deal_Card.code) rfl rfl (by kernel_rfl) (by kernel_rfl) (by kernel_rfl) deal_Deal_Card.ok (by decide)
  rw [deal_Deal_Card.eq] at h
  exact h

/-! ### (*wainwright/deal.Deal).Undo: function 52 -/
noncomputable def deal_Deal_Undo_1 : Unit → Option (Unit) := fun _ =>
  some ()

def deal_Deal_Undo_1.ins : Spec := ⟨9, 0, [], [0], (.cons (.nilptr) .nil)⟩
def deal_Deal_Undo_1.outs : List Spec := [⟨9, 0, [], [], .nil⟩]
noncomputable def deal_Deal_Undo_1.c : Callee' := ⟨52, mkFits deal_Deal_Undo_1.ins deal_Deal_Undo_1.outs, mkFun deal_Deal_Undo_1.ins deal_Deal_Undo_1.outs deal_Deal_Undo_1, mkFun_nat _ _ _⟩
theorem deal_Deal_Undo_1.quiet : FunQuiet deal_Deal_Undo_1.c.F := mkFun_quiet rfl rfl
noncomputable def deal_Deal_Undo_1.ann : Ann :=
  (.seq (.reg [.std, .obj .bool]) (.cond (.reg []) .std))
noncomputable def deal_Deal_Undo_1.code : Code := match Tryz.f52.body with | some c => c | none => .skip
theorem deal_Deal_Undo_1.eq : absFn tt 9 deal_Deal_Undo_1.ins deal_Deal_Undo_1.outs deal_Deal_Undo_1.code deal_Deal_Undo_1.ann = deal_Deal_Undo_1 := by
  funext a
  kernel_rfl
theorem deal_Deal_Undo_1.ok : deal_Deal_Undo_1.ann.ok Tryz.prog 0 9 :=
  ann_ok (by kernel_rfl) (by kernel_rfl) (show ∀ c ∈ ([] : List Callee'), c.ok Tryz.prog from cs_nil)
    (show ∀ c ∈ ([] : List Callee'), FunQuiet c.F from cs_nil)
theorem deal_Deal_Undo_1.sound : deal_Deal_Undo_1.c.ok Tryz.prog := by
  refine ⟨?_, Tryz.f52, deal_Deal_Undo_1.code, Tryz.func52, rfl, by decide⟩
  have h := fn_sound tt_ok mix_ok (x := deal_Deal_Undo_1.ann) (ins := deal_Deal_Undo_1.ins) (outs := deal_Deal_Undo_1.outs) (N := 9) Tryz.func52 (c := deal_Deal_Undo_1.code) rfl rfl (by kernel_rfl) (by kernel_rfl) deal_Deal_Undo_1.ok (by decide)
  rw [deal_Deal_Undo_1.eq] at h
  exact h

/-! ### (*wainwright/deal.Deal).Write: function 53 -/
noncomputable def deal_Deal_Write_1 : (Int × List UInt8) → Option (Int) := fun (i1, data2) =>
  some 1

def deal_Deal_Write_1.ins : Spec := ⟨33, 0, [], [0, 1, 2], (.cons (.nilptr) (.cons (.v I) (.cons (.v .str) .nil)))⟩
def deal_Deal_Write_1.outs : List Spec := [⟨33, 0, [], [6], (.cons (.v I) .nil)⟩]
noncomputable def deal_Deal_Write_1.c : Callee' := ⟨53, mkFits deal_Deal_Write_1.ins deal_Deal_Write_1.outs, mkFun deal_Deal_Write_1.ins deal_Deal_Write_1.outs deal_Deal_Write_1, mkFun_nat _ _ _⟩
theorem deal_Deal_Write_1.quiet : FunQuiet deal_Deal_Write_1.c.F := mkFun_quiet rfl rfl
noncomputable def deal_Deal_Write_1.ann : Ann :=
  (.seq (.reg []) (.seq (.seq (.reg [.std, .obj .bool]) (.cond (.seq (.reg []) .std) .std)) (.seq (.reg []) (.seq (.seq (.reg []) (.cond (.seq (.reg []) .std) .std)) (.seq (.reg []) (.seq (.reg []) .std))))))
noncomputable def deal_Deal_Write_1.code : Code := match Tryz.f53.body with | some c => c | none => .skip
theorem deal_Deal_Write_1.eq : absFn tt 33 deal_Deal_Write_1.ins deal_Deal_Write_1.outs deal_Deal_Write_1.code deal_Deal_Write_1.ann = deal_Deal_Write_1 := by
  funext a
  kernel_rfl
theorem deal_Deal_Write_1.ok : deal_Deal_Write_1.ann.ok Tryz.prog 0 33 :=
  ann_ok (by kernel_rfl) (by kernel_rfl) (show ∀ c ∈ ([] : List Callee'), c.ok Tryz.prog from cs_nil)
    (show ∀ c ∈ ([] : List Callee'), FunQuiet c.F from cs_nil)
theorem deal_Deal_Write_1.sound : deal_Deal_Write_1.c.ok Tryz.prog := by
  refine ⟨?_, Tryz.f53, deal_Deal_Write_1.code, Tryz.func53, rfl, by decide⟩
  have h := fn_sound tt_ok mix_ok (x := deal_Deal_Write_1.ann) (ins := deal_Deal_Write_1.ins) (outs := deal_Deal_Write_1.outs) (N := 33) Tryz.func53 (c := deal_Deal_Write_1.code) rfl rfl (by kernel_rfl) (by kernel_rfl) deal_Deal_Write_1.ok (by decide)
  rw [deal_Deal_Write_1.eq] at h
  exact h

/-! ### (*wainwright/deal.Deal).SetCrown: function 54 -/
noncomputable def deal_Deal_SetCrown : (Int × Int × Int) → Option (Int) := fun c1 =>
  some 1

def deal_Deal_SetCrown.ins : Spec := ⟨31, 0, [], [0, 1], (.cons (.nilptr) (.cons (.v (.st (.pair I (.pair I I)))) .nil))⟩
def deal_Deal_SetCrown.outs : List Spec := [⟨31, 0, [], [4], (.cons (.v I) .nil)⟩]
noncomputable def deal_Deal_SetCrown.c : Callee' := ⟨54, mkFits deal_Deal_SetCrown.ins deal_Deal_SetCrown.outs, mkFun deal_Deal_SetCrown.ins deal_Deal_SetCrown.outs deal_Deal_SetCrown, mkFun_nat _ _ _⟩
theorem deal_Deal_SetCrown.quiet : FunQuiet deal_Deal_SetCrown.c.F := mkFun_quiet rfl rfl
noncomputable def deal_Deal_SetCrown.ann : Ann :=
  (.seq (.reg []) (.seq (.seq (.drw [.std, .inl .bool, .std, .std, .std, .std, .std, .std, .std, .std, .callq []]) (.cond (.seq (.reg []) .std) .std)) (.seq (.reg []) (.seq (.seq (.reg []) (.cond (.seq (.reg []) .std) .std)) (.seq (.reg []) .std)))))
noncomputable def deal_Deal_SetCrown.code : Code := match Tryz.f54.body with | some c => c | none => .skip
theorem deal_Deal_SetCrown.eq : absFn tt 31 deal_Deal_SetCrown.ins deal_Deal_SetCrown.outs deal_Deal_SetCrown.code deal_Deal_SetCrown.ann = deal_Deal_SetCrown := by
  funext a
  kernel_rfl
theorem deal_Deal_SetCrown.ok : deal_Deal_SetCrown.ann.ok Tryz.prog 0 31 :=
  ann_ok (by kernel_rfl) (by kernel_rfl) (show ∀ c ∈ ([] : List Callee'), c.ok Tryz.prog from cs_nil)
    (show ∀ c ∈ ([] : List Callee'), FunQuiet c.F from cs_nil)
theorem deal_Deal_SetCrown.sound : deal_Deal_SetCrown.c.ok Tryz.prog := by
  refine ⟨?_, Tryz.f54, deal_Deal_SetCrown.code, Tryz.func54, rfl, by decide⟩
  have h := fn_sound tt_ok mix_ok (x := deal_Deal_SetCrown.ann) (ins := deal_Deal_SetCrown.ins) (outs := deal_Deal_SetCrown.outs) (N := 31) Tryz.func54 (c := deal_Deal_SetCrown.code) rfl rfl (by kernel_rfl) (by kernel_rfl) deal_Deal_SetCrown.ok (by decide)
  rw [deal_Deal_SetCrown.eq] at h
  exact h

/-! ### (*wainwright/deal.Deal).SetCard: function 55 -/
noncomputable def deal_Deal_SetCard : (Int × Int × Int × Int × Int × List Int × Int × Int × (List (Int × Int × Int)) × Int) → Option (Int) := fun (node1, c2) =>
  (deal_Deal_place node1).bind fun (r15, r15_2, r15_3, r15_4) =>
    if (r15_4 != 0) = true then
      some r15_4
    else none

def deal_Deal_SetCard.ins : Spec := ⟨45, 0, [], [0, 1, 2], (.cons (.nilptr) (.cons (.v I) (.cons (.v (.st (.pair I (.pair I (.pair I (.pair I (.pair (.sl I) (.pair I (.pair I (.pair (.sl (.st (.pair I (.pair I I)))) I)))))))))) .nil)))⟩
def deal_Deal_SetCard.outs : List Spec := [⟨45, 0, [], [6], (.cons (.v I) .nil)⟩]
noncomputable def deal_Deal_SetCard.c : Callee' := ⟨55, mkFits deal_Deal_SetCard.ins deal_Deal_SetCard.outs, mkFun deal_Deal_SetCard.ins deal_Deal_SetCard.outs deal_Deal_SetCard, mkFun_nat _ _ _⟩
theorem deal_Deal_SetCard.quiet : FunQuiet deal_Deal_SetCard.c.F := mkFun_quiet rfl rfl
noncomputable def deal_Deal_SetCard.ann : Ann :=
  (.seq (.reg []) (.seq (.reg [.std, .std, .callq [deal_Deal_place.c]]) (.seq (.seq (.reg []) (.cond (.seq (.reg []) .std) .std)) (.seq (.reg []) (.seq (.seq (.reg []) (.cond (.seq (.reg []) .std) .std)) (.seq (.reg []) (.seq (.seq (.reg []) (.cond (.seq (.reg []) .std) .std)) (.seq (.reg []) .std))))))))
noncomputable def deal_Deal_SetCard.code : Code := match Tryz.f55.body with | some c => c | none => .skip
theorem deal_Deal_SetCard.eq : absFn tt 45 deal_Deal_SetCard.ins deal_Deal_SetCard.outs deal_Deal_SetCard.code deal_Deal_SetCard.ann = deal_Deal_SetCard := by
  funext a
  kernel_rfl
theorem deal_Deal_SetCard.ok : deal_Deal_SetCard.ann.ok Tryz.prog 0 45 :=
  ann_ok (by kernel_rfl) (by kernel_rfl) (show ∀ c ∈ ([deal_Deal_place.c] : List Callee'), c.ok Tryz.prog from cs_cons deal_Deal_place.sound cs_nil)
    (show ∀ c ∈ ([deal_Deal_place.c] : List Callee'), FunQuiet c.F from cs_cons deal_Deal_place.quiet cs_nil)
theorem deal_Deal_SetCard.sound : deal_Deal_SetCard.c.ok Tryz.prog := by
  refine ⟨?_, Tryz.f55, deal_Deal_SetCard.code, Tryz.func55, rfl, by decide⟩
  have h := fn_sound tt_ok mix_ok (x := deal_Deal_SetCard.ann) (ins := deal_Deal_SetCard.ins) (outs := deal_Deal_SetCard.outs) (N := 45) Tryz.func55 (c := deal_Deal_SetCard.code) rfl rfl (by kernel_rfl) (by kernel_rfl) deal_Deal_SetCard.ok (by decide)
  rw [deal_Deal_SetCard.eq] at h
  exact h

/-! ### (*wainwright/deal.Deal).Changed: function 47 -/
noncomputable def deal_Deal_Changed_1 : Unit → Option (List Int) := fun _ =>
  some ((([] : List Int)))

def deal_Deal_Changed_1.ins : Spec := ⟨24, 0, [], [0], (.cons (.nilptr) .nil)⟩
def deal_Deal_Changed_1.outs : List Spec := [⟨24, 0, [], [2], (.cons (.v (.sl I)) .nil)⟩]
noncomputable def deal_Deal_Changed_1.c : Callee' := ⟨47, mkFits deal_Deal_Changed_1.ins deal_Deal_Changed_1.outs, mkFun deal_Deal_Changed_1.ins deal_Deal_Changed_1.outs deal_Deal_Changed_1, mkFun_nat _ _ _⟩
theorem deal_Deal_Changed_1.quiet : FunQuiet deal_Deal_Changed_1.c.F := mkFun_quiet rfl rfl
noncomputable def deal_Deal_Changed_1.ann : Ann :=
  (.seq (.reg []) (.seq (.seq (.reg [.std, .obj .bool]) (.cond (.seq (.reg []) .std) .std)) (.seq (.reg []) (.seq (.seq (.reg []) (.block .std)) (.seq (.reg []) .std)))))
noncomputable def deal_Deal_Changed_1.code : Code := match Tryz.f47.body with | some c => c | none => .skip
theorem deal_Deal_Changed_1.eq : absFn tt 24 deal_Deal_Changed_1.ins deal_Deal_Changed_1.outs deal_Deal_Changed_1.code deal_Deal_Changed_1.ann = deal_Deal_Changed_1 := by
  funext a
  kernel_rfl
theorem deal_Deal_Changed_1.ok : deal_Deal_Changed_1.ann.ok Tryz.prog 0 24 :=
  ann_ok (by kernel_rfl) (by kernel_rfl) (show ∀ c ∈ ([] : List Callee'), c.ok Tryz.prog from cs_nil)
    (show ∀ c ∈ ([] : List Callee'), FunQuiet c.F from cs_nil)
theorem deal_Deal_Changed_1.sound : deal_Deal_Changed_1.c.ok Tryz.prog := by
  refine ⟨?_, Tryz.f47, deal_Deal_Changed_1.code, Tryz.func47, rfl, by decide⟩
  have h := fn_sound tt_ok mix_ok (x := deal_Deal_Changed_1.ann) (ins := deal_Deal_Changed_1.ins) (outs := deal_Deal_Changed_1.outs) (N := 24) Tryz.func47 (c := deal_Deal_Changed_1.code) rfl rfl (by kernel_rfl) (by kernel_rfl) deal_Deal_Changed_1.ok (by decide)
  rw [deal_Deal_Changed_1.eq] at h
  exact h

/-! ### (*wainwright/deal.Deal).Commit: function 56 -/
noncomputable def deal_Deal_Commit_1 : Unit → Option (Int) := fun _ =>
  some 1

def deal_Deal_Commit_1.ins : Spec := ⟨21, 0, [], [0], (.cons (.nilptr) .nil)⟩
def deal_Deal_Commit_1.outs : List Spec := [⟨21, 0, [], [2], (.cons (.v I) .nil)⟩]
noncomputable def deal_Deal_Commit_1.c : Callee' := ⟨56, mkFits deal_Deal_Commit_1.ins deal_Deal_Commit_1.outs, mkFun deal_Deal_Commit_1.ins deal_Deal_Commit_1.outs deal_Deal_Commit_1, mkFun_nat _ _ _⟩
theorem deal_Deal_Commit_1.quiet : FunQuiet deal_Deal_Commit_1.c.F := mkFun_quiet rfl rfl
noncomputable def deal_Deal_Commit_1.ann : Ann :=
  (.seq (.reg []) (.seq (.seq (.reg [.std, .obj .bool]) (.cond (.seq (.reg []) .std) .std)) (.seq (.drw [.std, .std, .std, .std, .std, .std, .std, .std, .callq [], .callq []]) (.seq (.seq (.reg []) (.cond (.reg []) .std)) (.seq (.reg []) .std)))))
noncomputable def deal_Deal_Commit_1.code : Code := match Tryz.f56.body with | some c => c | none => .skip
theorem deal_Deal_Commit_1.eq : absFn tt 21 deal_Deal_Commit_1.ins deal_Deal_Commit_1.outs deal_Deal_Commit_1.code deal_Deal_Commit_1.ann = deal_Deal_Commit_1 := by
  funext a
  kernel_rfl
theorem deal_Deal_Commit_1.ok : deal_Deal_Commit_1.ann.ok Tryz.prog 0 21 :=
  ann_ok (by kernel_rfl) (by kernel_rfl) (show ∀ c ∈ ([] : List Callee'), c.ok Tryz.prog from cs_nil)
    (show ∀ c ∈ ([] : List Callee'), FunQuiet c.F from cs_nil)
theorem deal_Deal_Commit_1.sound : deal_Deal_Commit_1.c.ok Tryz.prog := by
  refine ⟨?_, Tryz.f56, deal_Deal_Commit_1.code, Tryz.func56, rfl, by decide⟩
  have h := fn_sound tt_ok mix_ok (x := deal_Deal_Commit_1.ann) (ins := deal_Deal_Commit_1.ins) (outs := deal_Deal_Commit_1.outs) (N := 21) Tryz.func56 (c := deal_Deal_Commit_1.code) rfl rfl (by kernel_rfl) (by kernel_rfl) deal_Deal_Commit_1.ok (by decide)
  rw [deal_Deal_Commit_1.eq] at h
  exact h

/-! ### wainwright/wainwrightlaw12.DealNil: function 11 -/
noncomputable def wainwrightlaw12_DealNil : (Int × Int × List UInt8 × (Int × Int × Int) × Int × Int × Int × Int × List Int × Int × Int × (List (Int × Int × Int)) × Int) → Option (Bool) := fun ov0 =>
  (wainwrightlaw12_lives ()).bind fun r11 =>
    if (!r11) = true then
      some false
    else
      (deal_Begin ()).bind fun r14 =>
        (deal_Deal_Read_1 ov0.2.1).bind fun (r21, r21_2) =>
          (deal_Deal_Crown ()).bind fun (r26, r26_2) =>
            (deal_Deal_Card ov0.2.1).bind fun (r33, r33_2) =>
              (deal_Deal_Undo_1 ()).bind fun _ =>
                if (r14 == 1) = true then
                  if (r21_2 == 1) = true then
                    if (r26_2 == 1) = true then
                      if (r33_2 == 1) = true then
                        (deal_Deal_Write_1 (ov0.2.1, [])).bind fun r60 =>
                          if (r60 == 1) = true then
                            (deal_Deal_SetCrown (ov0.2.2.2.1.1, ov0.2.2.2.1.2.1, ov0.2.2.2.1.2.2)).bind fun r67 =>
                              if (r67 == 1) = true then
                                (deal_Deal_SetCard (ov0.2.1, ov0.2.2.2.2.1, ov0.2.2.2.2.2.1, ov0.2.2.2.2.2.2.1, ov0.2.2.2.2.2.2.2.1, ov0.2.2.2.2.2.2.2.2.1, ov0.2.2.2.2.2.2.2.2.2.1, ov0.2.2.2.2.2.2.2.2.2.2.1, ov0.2.2.2.2.2.2.2.2.2.2.2.1, ov0.2.2.2.2.2.2.2.2.2.2.2.2)).bind fun r76 =>
                                  if (r76 == 1) = true then
                                    (deal_Deal_Changed_1 ()).bind fun r81 =>
                                      if ((r81.length : Int) == 0) = true then
                                        (deal_Deal_Commit_1 ()).bind fun r87 =>
                                          some (((r87 == 1)))
                                      else
                                        some false
                                  else
                                    some false
                              else
                                some false
                          else
                            some false
                      else
                        some false
                    else
                      some false
                  else
                    some false
                else
                  some false

def wainwrightlaw12_DealNil.ins : Spec := ⟨90, 0, [], [0], (.cons (.v (.st (.pair I (.pair I (.pair .str (.pair (.st (.pair I (.pair I I))) (.st (.pair I (.pair I (.pair I (.pair I (.pair (.sl I) (.pair I (.pair I (.pair (.sl (.st (.pair I (.pair I I)))) I))))))))))))))) .nil)⟩
def wainwrightlaw12_DealNil.outs : List Spec := [⟨90, 0, [], [2], (.cons (.v .bool) .nil)⟩]
noncomputable def wainwrightlaw12_DealNil.c : Callee' := ⟨11, mkFits wainwrightlaw12_DealNil.ins wainwrightlaw12_DealNil.outs, mkFun wainwrightlaw12_DealNil.ins wainwrightlaw12_DealNil.outs wainwrightlaw12_DealNil, mkFun_nat _ _ _⟩
theorem wainwrightlaw12_DealNil.quiet : FunQuiet wainwrightlaw12_DealNil.c.F := mkFun_quiet rfl rfl
noncomputable def wainwrightlaw12_DealNil.ann : Ann :=
  (.seq (.reg []) (.seq (.seq (.reg [.callq [wainwrightlaw12_lives.c]]) (.cond (.seq (.reg []) .std) .std)) (.seq (.reg [.callq [deal_Begin.c]]) (.seq (.reg [.std, .std, .std, .callq [deal_Deal_Read_1.c]]) (.seq (.reg [.std, .callq [deal_Deal_Crown.c]]) (.seq (.reg [.std, .std, .std, .callq [deal_Deal_Card.c]]) (.seq (.reg [.std, .callq [deal_Deal_Undo_1.c]]) (.seq (.reg [.std, .obj .bool, .std, .std, .std, .std, .std, .std, .std, .std, .std, .std, .std, .std, .std, .std, .std, .std, .std, .std, .std, .std, .callq [deal_Deal_Write_1.c], .std, .std, .std, .std, .std, .std, .callq [deal_Deal_SetCrown.c], .std, .std, .std, .std, .std, .std, .std, .std, .callq [deal_Deal_SetCard.c], .std, .std, .std, .std, .callq [deal_Deal_Changed_1.c], .std, .std, .std, .std, .std, .callq [deal_Deal_Commit_1.c]]) .std))))))))
noncomputable def wainwrightlaw12_DealNil.code : Code := match Tryz.f11.body with | some c => c | none => .skip
theorem wainwrightlaw12_DealNil.eq : absFn tt 90 wainwrightlaw12_DealNil.ins wainwrightlaw12_DealNil.outs wainwrightlaw12_DealNil.code wainwrightlaw12_DealNil.ann = wainwrightlaw12_DealNil := by
  funext a
  kernel_rfl
theorem wainwrightlaw12_DealNil.ok : wainwrightlaw12_DealNil.ann.ok Tryz.prog 0 90 :=
  ann_ok (by kernel_rfl) (by kernel_rfl) (show ∀ c ∈ ([wainwrightlaw12_lives.c, deal_Begin.c, deal_Deal_Read_1.c, deal_Deal_Crown.c, deal_Deal_Card.c, deal_Deal_Undo_1.c, deal_Deal_Write_1.c, deal_Deal_SetCrown.c, deal_Deal_SetCard.c, deal_Deal_Changed_1.c, deal_Deal_Commit_1.c] : List Callee'), c.ok Tryz.prog from cs_cons wainwrightlaw12_lives.sound (cs_cons deal_Begin.sound (cs_cons deal_Deal_Read_1.sound (cs_cons deal_Deal_Crown.sound (cs_cons deal_Deal_Card.sound (cs_cons deal_Deal_Undo_1.sound (cs_cons deal_Deal_Write_1.sound (cs_cons deal_Deal_SetCrown.sound (cs_cons deal_Deal_SetCard.sound (cs_cons deal_Deal_Changed_1.sound (cs_cons deal_Deal_Commit_1.sound cs_nil)))))))))))
    (show ∀ c ∈ ([wainwrightlaw12_lives.c, deal_Begin.c, deal_Deal_Read_1.c, deal_Deal_Crown.c, deal_Deal_Card.c, deal_Deal_Undo_1.c, deal_Deal_Write_1.c, deal_Deal_SetCrown.c, deal_Deal_SetCard.c, deal_Deal_Changed_1.c, deal_Deal_Commit_1.c] : List Callee'), FunQuiet c.F from cs_cons wainwrightlaw12_lives.quiet (cs_cons deal_Begin.quiet (cs_cons deal_Deal_Read_1.quiet (cs_cons deal_Deal_Crown.quiet (cs_cons deal_Deal_Card.quiet (cs_cons deal_Deal_Undo_1.quiet (cs_cons deal_Deal_Write_1.quiet (cs_cons deal_Deal_SetCrown.quiet (cs_cons deal_Deal_SetCard.quiet (cs_cons deal_Deal_Changed_1.quiet (cs_cons deal_Deal_Commit_1.quiet cs_nil)))))))))))
theorem wainwrightlaw12_DealNil.sound : wainwrightlaw12_DealNil.c.ok Tryz.prog := by
  refine ⟨?_, Tryz.f11, wainwrightlaw12_DealNil.code, Tryz.func11, rfl, by decide⟩
  have h := fn_sound tt_ok mix_ok (x := wainwrightlaw12_DealNil.ann) (ins := wainwrightlaw12_DealNil.ins) (outs := wainwrightlaw12_DealNil.outs) (N := 90) Tryz.func11 (c := wainwrightlaw12_DealNil.code) rfl rfl (by kernel_rfl) (by kernel_rfl) wainwrightlaw12_DealNil.ok (by decide)
  rw [wainwrightlaw12_DealNil.eq] at h
  exact h

end Go.Proofs.YtiodpeekbeahlaaGreatDoor.Abs
