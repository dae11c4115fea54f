/- The functions as the abstract machine computes them: printed by gen2.py (own work). -/
import Derived.Test.YtldmeogadmgkiaaProg
import Derived.Test.YtldmeogadmgkiaaAbsFn
import Derived.KernelRfl
namespace Go.Proofs.Ytldmeogadmgkiaa.Abs
open Go Go.Proofs
abbrev I := Ty.int .i64
set_option maxRecDepth 100000
set_option linter.unusedVariables false

def tt : Nat → TI
  | 3 => ⟨.int .i64, 1, 8, [.int .i64 0]⟩
  | 4 => ⟨.bool, 1, 1, [.bool false]⟩
  | 5 => ⟨.int .u8, 1, 1, [.int .u8 0]⟩
  | 9 => ⟨.str, 1, 16, [.string .empty]⟩
  | 33 => ⟨.int .u64, 1, 8, [.int .u64 0]⟩
  | 40 => ⟨.arr 3 3, 3, 24, [.int .i64 0, .int .i64 0, .int .i64 0]⟩
  | 46 => ⟨.sl 5, 1, 24, [.slice none 0 0]⟩
  | _ => ⟨.other, 0, 0, []⟩
theorem tt_ok : TTok Try.prog tt := by
  intro t
  unfold tt
  split
  · exact .inr (ti_ok (d := .int .i64) (by kernel_rfl) (by simp [TK.fits]) (by kernel_rfl))
  · exact .inr (ti_ok (d := .bool) (by kernel_rfl) (by simp [TK.fits]) (by kernel_rfl))
  · exact .inr (ti_ok (d := .int .u8) (by kernel_rfl) (by simp [TK.fits]) (by kernel_rfl))
  · exact .inr (ti_ok (d := .string) (by kernel_rfl) (by simp [TK.fits]) (by kernel_rfl))
  · exact .inr (ti_ok (d := .int .u64) (by kernel_rfl) (by simp [TK.fits]) (by kernel_rfl))
  · exact .inr (ti_ok (d := .array 3 3) (by kernel_rfl) (by simp [TK.fits]) (by kernel_rfl))
  · exact .inr (ti_ok (d := .slice 5) (by kernel_rfl) (by simp [TK.fits]) (by kernel_rfl))
  · exact .inl rfl
theorem mix_ok : Try.prog.follows .mixedOrders = true := by kernel_rfl

/-! ### wainwright/marks.there: function 30 -/
noncomputable def marks_there : (List UInt8 × Int) → Option (Bool) := fun (m0, i1) =>
  if decide (i1 ≥ 0) = true then
    some ((decide (i1 < IntKind.i64.wrap (8 * (m0.length : Int)))))
  else
    some false

def marks_there.ins : Spec := ⟨14, 0, [], [0, 1], (.cons (.v .str) (.cons (.v I) .nil))⟩
def marks_there.outs : List Spec := [⟨14, 0, [], [4], (.cons (.v .bool) .nil)⟩]
noncomputable def marks_there.c : Callee' := ⟨30, mkFits marks_there.ins marks_there.outs, mkFun marks_there.ins marks_there.outs marks_there⟩
theorem marks_there.quiet : FunQuiet marks_there.c.F := mkFun_quiet rfl rfl
noncomputable def marks_there.ann : Ann :=
  (.seq (.reg []) (.seq (.reg []) .std))
noncomputable def marks_there.code : Code := match Try.f30.body with | some c => c | none => .skip
theorem marks_there.eq : absFn tt 14 marks_there.ins marks_there.outs marks_there.code marks_there.ann = marks_there := by
  funext a
  kernel_rfl
theorem marks_there.ok : marks_there.ann.ok Try.prog 0 14 :=
  ann_ok (by kernel_rfl) (by kernel_rfl) (show ∀ c ∈ ([] : List Callee'), c.ok Try.prog from cs_nil)
    (show ∀ c ∈ ([] : List Callee'), FunQuiet c.F from cs_nil)
theorem marks_there.sound : marks_there.c.ok Try.prog := by
  refine ⟨?_, Try.f30, marks_there.code, Try.func30, rfl, by decide⟩
  have h := fn_sound tt_ok mix_ok (x := marks_there.ann) (ins := marks_there.ins) (outs := marks_there.outs) (N := 14) Try.func30 (c := marks_there.code) rfl rfl (by kernel_rfl) (by kernel_rfl) marks_there.ok (by decide)
  rw [marks_there.eq] at h
  exact h

/-! ### wainwright/marks.Is: function 20 -/
noncomputable def marks_Is : (List UInt8 × Int) → Option (Bool) := fun (m0, i1) =>
  (marks_there (m0, i1)).bind fun r7 =>
    if (!r7) = false then
      if 0 ≤ IntKind.i64.wrap (Int.tdiv i1 8) ∧ IntKind.i64.wrap (Int.tdiv i1 8) < (m0.length : Int) then
        if 0 ≤ Int.tmod i1 8 then
          some (((bitsOp .and .u8 (Int.fdiv ((m0.getD ((IntKind.i64.wrap (Int.tdiv i1 8)).toNat) 0).toNat : Int) (2 ^ (min (Int.tmod i1 8).toNat 8))) 1 == 1)))
        else none
      else none
    else
      some true

def marks_Is.ins : Spec := ⟨20, 0, [], [0, 1], (.cons (.v .str) (.cons (.v I) .nil))⟩
def marks_Is.outs : List Spec := [⟨20, 0, [], [4], (.cons (.v .bool) .nil)⟩]
noncomputable def marks_Is.c : Callee' := ⟨20, mkFits marks_Is.ins marks_Is.outs, mkFun marks_Is.ins marks_Is.outs marks_Is⟩
theorem marks_Is.quiet : FunQuiet marks_Is.c.F := mkFun_quiet rfl rfl
noncomputable def marks_Is.ann : Ann :=
  (.seq (.reg []) (.seq (.reg [.std, .std, .callq [marks_there.c]]) .std))
noncomputable def marks_Is.code : Code := match Try.f20.body with | some c => c | none => .skip
theorem marks_Is.eq : absFn tt 20 marks_Is.ins marks_Is.outs marks_Is.code marks_Is.ann = marks_Is := by
  funext a
  kernel_rfl
theorem marks_Is.ok : marks_Is.ann.ok Try.prog 0 20 :=
  ann_ok (by kernel_rfl) (by kernel_rfl) (show ∀ c ∈ ([marks_there.c] : List Callee'), c.ok Try.prog from cs_cons marks_there.sound cs_nil)
    (show ∀ c ∈ ([marks_there.c] : List Callee'), FunQuiet c.F from cs_cons marks_there.quiet cs_nil)
theorem marks_Is.sound : marks_Is.c.ok Try.prog := by
  refine ⟨?_, Try.f20, marks_Is.code, Try.func20, rfl, by decide⟩
  have h := fn_sound tt_ok mix_ok (x := marks_Is.ann) (ins := marks_Is.ins) (outs := marks_Is.outs) (N := 20) Try.func20 (c := marks_Is.code) rfl rfl (by kernel_rfl) (by kernel_rfl) marks_Is.ok (by decide)
  rw [marks_Is.eq] at h
  exact h

/-! ### wainwright/marks.Run: function 26 -/
noncomputable def marks_Run.l1 : (List UInt8 × Int × Int × Int × Int) → Option ((List UInt8 × Int × Int × Int × Int) ⊕ (Unit ⊕ (Int × Bool))) := fun (m0, n2, length3, row10, i11) =>
  if decide (i11 < n2) = true then
    ((
      (marks_Is (m0, i11)).bind fun r30 =>
        if r30 = true then
          some (((m0, n2, length3, 0, i11)))
        else
          some (((m0, n2, length3, IntKind.i64.wrap (row10 + 1), i11)))) : Option (List UInt8 × Int × Int × Int × Int)).bind fun (m0, n2, length3, row10, i11) =>
      if (row10 == length3) = true then
        some (.inr (.inr (((IntKind.i64.wrap ((IntKind.i64.wrap (i11 + 1)) - length3), true)))))
      else
        some (.inl ((m0, n2, length3, row10, IntKind.i64.wrap (i11 + 1))))
  else
    some (.inr (.inl ()))

noncomputable def marks_Run : (List UInt8 × Int × Int × Int) → Option (Int × Bool) := fun (m0, from1, n2, length3) =>
  if decide (length3 < 1) = true then
    some (((0, false)))
  else
    (loopO marks_Run.l1 ((m0, (if IntKind.i64.wrap (8 * (m0.length : Int)) < n2 then IntKind.i64.wrap (8 * (m0.length : Int)) else n2), length3, 0, (if 0 > from1 then 0 else from1)))).bind fun d => match d with
    | .inl _ =>
      some (((0, false)))
    | .inr ((t8, t9)) =>
      some (((t8, t9)))

def marks_Run.ins : Spec := ⟨38, 0, [], [0, 1, 2, 3], (.cons (.v .str) (.cons (.v I) (.cons (.v I) (.cons (.v I) .nil))))⟩
def marks_Run.outs : List Spec := [⟨38, 0, [], [8, 9], (.cons (.v I) (.cons (.v .bool) .nil))⟩]
noncomputable def marks_Run.c : Callee' := ⟨26, mkFits marks_Run.ins marks_Run.outs, mkFun marks_Run.ins marks_Run.outs marks_Run⟩
theorem marks_Run.quiet : FunQuiet marks_Run.c.F := mkFun_quiet rfl rfl
noncomputable def marks_Run.ann : Ann :=
  (.seq (.reg []) (.seq (.seq (.reg []) (.cond (.seq (.reg []) .std) .std)) (.seq (.reg []) (.seq (.reg []) (.seq (.seq (.reg []) (.block (.loop ⟨38, 0, [], [0, 2, 3, 10, 11], (.cons (.v .str) (.cons (.v I) (.cons (.v I) (.cons (.v I) (.cons (.v I) .nil)))))⟩ [(.exit 0, ⟨38, 0, [], [], .nil⟩), (.ret, ⟨38, 0, [], [8, 9], (.cons (.v I) (.cons (.v .bool) .nil))⟩)]
  (.seq (.seq (.reg []) (.cond .std .std)) (.seq (.block (.seq (.reg []) (.join [(.norm, ⟨38, 0, [], [0, 2, 3, 10, 11], (.cons (.v .str) (.cons (.v I) (.cons (.v I) (.cons (.v I) (.cons (.v I) .nil)))))⟩)]
  (.seq (.reg [.std, .std, .callq [marks_Is.c]]) (.cond (.reg []) .std)) (.seq (.reg []) (.cond (.seq (.reg []) .std) .std))))) (.reg [])))))) (.seq (.reg []) .std))))))
noncomputable def marks_Run.code : Code := match Try.f26.body with | some c => c | none => .skip
theorem marks_Run.eq : absFn tt 38 marks_Run.ins marks_Run.outs marks_Run.code marks_Run.ann = marks_Run := by
  funext a
  kernel_rfl
theorem marks_Run.ok : marks_Run.ann.ok Try.prog 0 38 :=
  ann_ok (by kernel_rfl) (by kernel_rfl) (show ∀ c ∈ ([marks_Is.c] : List Callee'), c.ok Try.prog from cs_cons marks_Is.sound cs_nil)
    (show ∀ c ∈ ([marks_Is.c] : List Callee'), FunQuiet c.F from cs_cons marks_Is.quiet cs_nil)
theorem marks_Run.sound : marks_Run.c.ok Try.prog := by
  refine ⟨?_, Try.f26, marks_Run.code, Try.func26, rfl, by decide⟩
  have h := fn_sound tt_ok mix_ok (x := marks_Run.ann) (ins := marks_Run.ins) (outs := marks_Run.outs) (N := 38) Try.func26 (c := marks_Run.code) rfl rfl (by kernel_rfl) (by kernel_rfl) marks_Run.ok (by decide)
  rw [marks_Run.eq] at h
  exact h

/-! ### wainwright/marks.First: function 29 -/
noncomputable def marks_First : (List UInt8 × Int × Int) → Option (Int × Bool) := fun (m0, from1, n2) =>
  (marks_Run (m0, from1, n2, 1)).bind fun (r11, r11_2) =>
    some (((r11, r11_2)))

def marks_First.ins : Spec := ⟨14, 0, [], [0, 1, 2], (.cons (.v .str) (.cons (.v I) (.cons (.v I) .nil)))⟩
def marks_First.outs : List Spec := [⟨14, 0, [], [6, 7], (.cons (.v I) (.cons (.v .bool) .nil))⟩]
noncomputable def marks_First.c : Callee' := ⟨29, mkFits marks_First.ins marks_First.outs, mkFun marks_First.ins marks_First.outs marks_First⟩
theorem marks_First.quiet : FunQuiet marks_First.c.F := mkFun_quiet rfl rfl
noncomputable def marks_First.ann : Ann :=
  (.seq (.reg []) (.seq (.reg [.std, .std, .std, .callq [marks_Run.c]]) .std))
noncomputable def marks_First.code : Code := match Try.f29.body with | some c => c | none => .skip
theorem marks_First.eq : absFn tt 14 marks_First.ins marks_First.outs marks_First.code marks_First.ann = marks_First := by
  funext a
  kernel_rfl
theorem marks_First.ok : marks_First.ann.ok Try.prog 0 14 :=
  ann_ok (by kernel_rfl) (by kernel_rfl) (show ∀ c ∈ ([marks_Run.c] : List Callee'), c.ok Try.prog from cs_cons marks_Run.sound cs_nil)
    (show ∀ c ∈ ([marks_Run.c] : List Callee'), FunQuiet c.F from cs_cons marks_Run.quiet cs_nil)
theorem marks_First.sound : marks_First.c.ok Try.prog := by
  refine ⟨?_, Try.f29, marks_First.code, Try.func29, rfl, by decide⟩
  have h := fn_sound tt_ok mix_ok (x := marks_First.ann) (ins := marks_First.ins) (outs := marks_First.outs) (N := 14) Try.func29 (c := marks_First.code) rfl rfl (by kernel_rfl) (by kernel_rfl) marks_First.ok (by decide)
  rw [marks_First.eq] at h
  exact h

/-! ### wainwright/marks.Longest: function 27 -/
noncomputable def marks_Longest.l1 : (List UInt8 × Int × Int × Int × Int × Int) → Option ((List UInt8 × Int × Int × Int × Int × Int) ⊕ (Int × Int)) := fun (m0, at6, best7, row8, t15, t16) =>
  if decide (t16 < t15) = true then
    ((
      (marks_Is (m0, t16)).bind fun r23 =>
        if r23 = true then
          some (((m0, at6, best7, 0, t16, t15, t16)))
        else
          some (((m0, at6, best7, IntKind.i64.wrap (row8 + 1), t16, t15, t16)))) : Option (List UInt8 × Int × Int × Int × Int × Int × Int)).bind fun (m0, at6, best7, row8, i9, t15, t16) =>
      if decide (row8 > best7) = true then
        some (.inl ((m0, IntKind.i64.wrap ((IntKind.i64.wrap (i9 + 1)) - row8), row8, row8, t15, IntKind.i64.wrap (t16 + 1))))
      else
        some (.inl ((m0, at6, best7, row8, t15, IntKind.i64.wrap (t16 + 1))))
  else
    some (.inr (((at6, best7))))

noncomputable def marks_Longest : (List UInt8 × Int) → Option (Int × Int) := fun (m0, n1) =>
  (loopO marks_Longest.l1 ((m0, 0, 0, 0, (if IntKind.i64.wrap (8 * (m0.length : Int)) < (if 0 > n1 then 0 else n1) then IntKind.i64.wrap (8 * (m0.length : Int)) else (if 0 > n1 then 0 else n1)), 0))).bind fun (at6, best7) =>
    some (((at6, best7)))

def marks_Longest.ins : Spec := ⟨35, 0, [], [0, 1], (.cons (.v .str) (.cons (.v I) .nil))⟩
def marks_Longest.outs : List Spec := [⟨35, 0, [], [4, 5], (.cons (.v I) (.cons (.v I) .nil))⟩]
noncomputable def marks_Longest.c : Callee' := ⟨27, mkFits marks_Longest.ins marks_Longest.outs, mkFun marks_Longest.ins marks_Longest.outs marks_Longest⟩
theorem marks_Longest.quiet : FunQuiet marks_Longest.c.F := mkFun_quiet rfl rfl
noncomputable def marks_Longest.ann : Ann :=
  (.seq (.reg []) (.seq (.reg []) (.seq (.seq (.reg []) (.block (.loop ⟨35, 0, [], [0, 6, 7, 8, 15, 16], (.cons (.v .str) (.cons (.v I) (.cons (.v I) (.cons (.v I) (.cons (.v I) (.cons (.v I) .nil))))))⟩ [(.exit 0, ⟨35, 0, [], [6, 7], (.cons (.v I) (.cons (.v I) .nil))⟩)]
  (.seq (.reg []) (.seq (.cond .std .std) (.seq (.block (.seq (.reg []) (.seq (.reg []) (.join [(.norm, ⟨35, 0, [], [0, 6, 7, 8, 9, 15, 16], (.cons (.v .str) (.cons (.v I) (.cons (.v I) (.cons (.v I) (.cons (.v I) (.cons (.v I) (.cons (.v I) .nil)))))))⟩)]
  (.seq (.reg [.std, .std, .callq [marks_Is.c]]) (.cond (.reg []) .std)) (.seq (.reg []) (.cond (.reg []) .std)))))) (.reg []))))))) (.seq (.reg []) .std))))
noncomputable def marks_Longest.code : Code := match Try.f27.body with | some c => c | none => .skip
theorem marks_Longest.eq : absFn tt 35 marks_Longest.ins marks_Longest.outs marks_Longest.code marks_Longest.ann = marks_Longest := by
  funext a
  kernel_rfl
theorem marks_Longest.ok : marks_Longest.ann.ok Try.prog 0 35 :=
  ann_ok (by kernel_rfl) (by kernel_rfl) (show ∀ c ∈ ([marks_Is.c] : List Callee'), c.ok Try.prog from cs_cons marks_Is.sound cs_nil)
    (show ∀ c ∈ ([marks_Is.c] : List Callee'), FunQuiet c.F from cs_cons marks_Is.quiet cs_nil)
theorem marks_Longest.sound : marks_Longest.c.ok Try.prog := by
  refine ⟨?_, Try.f27, marks_Longest.code, Try.func27, rfl, by decide⟩
  have h := fn_sound tt_ok mix_ok (x := marks_Longest.ann) (ins := marks_Longest.ins) (outs := marks_Longest.outs) (N := 35) Try.func27 (c := marks_Longest.code) rfl rfl (by kernel_rfl) (by kernel_rfl) marks_Longest.ok (by decide)
  rw [marks_Longest.eq] at h
  exact h

/-! ### math/bits.OnesCount8: function 31 -/
noncomputable def bits_OnesCount8 : Int → Option (Int) := fun x0 =>
  if 0 ≤ x0 ∧ x0 < ((([0, 1, 1, 2, 1, 2, 2, 3, 1, 2, 2, 3, 2, 3, 3, 4, 1, 2, 2, 3, 2, 3, 3, 4, 2, 3, 3, 4, 3, 4, 4, 5, 1, 2, 2, 3, 2, 3, 3, 4, 2, 3, 3, 4, 3, 4, 4, 5, 2, 3, 3, 4, 3, 4, 4, 5, 3, 4, 4, 5, 4, 5, 5, 6, 1, 2, 2, 3, 2, 3, 3, 4, 2, 3, 3, 4, 3, 4, 4, 5, 2, 3, 3, 4, 3, 4, 4, 5, 3, 4, 4, 5, 4, 5, 5, 6, 2, 3, 3, 4, 3, 4, 4, 5, 3, 4, 4, 5, 4, 5, 5, 6, 3, 4, 4, 5, 4, 5, 5, 6, 4, 5, 5, 6, 5, 6, 6, 7, 1, 2, 2, 3, 2, 3, 3, 4, 2, 3, 3, 4, 3, 4, 4, 5, 2, 3, 3, 4, 3, 4, 4, 5, 3, 4, 4, 5, 4, 5, 5, 6, 2, 3, 3, 4, 3, 4, 4, 5, 3, 4, 4, 5, 4, 5, 5, 6, 3, 4, 4, 5, 4, 5, 5, 6, 4, 5, 5, 6, 5, 6, 6, 7, 2, 3, 3, 4, 3, 4, 4, 5, 3, 4, 4, 5, 4, 5, 5, 6, 3, 4, 4, 5, 4, 5, 5, 6, 4, 5, 5, 6, 5, 6, 6, 7, 3, 4, 4, 5, 4, 5, 5, 6, 4, 5, 5, 6, 5, 6, 6, 7, 4, 5, 5, 6, 5, 6, 6, 7, 5, 6, 6, 7, 6, 7, 7, 8] : List UInt8)).length : Int) then
    some ((IntKind.i64.wrap ((((([0, 1, 1, 2, 1, 2, 2, 3, 1, 2, 2, 3, 2, 3, 3, 4, 1, 2, 2, 3, 2, 3, 3, 4, 2, 3, 3, 4, 3, 4, 4, 5, 1, 2, 2, 3, 2, 3, 3, 4, 2, 3, 3, 4, 3, 4, 4, 5, 2, 3, 3, 4, 3, 4, 4, 5, 3, 4, 4, 5, 4, 5, 5, 6, 1, 2, 2, 3, 2, 3, 3, 4, 2, 3, 3, 4, 3, 4, 4, 5, 2, 3, 3, 4, 3, 4, 4, 5, 3, 4, 4, 5, 4, 5, 5, 6, 2, 3, 3, 4, 3, 4, 4, 5, 3, 4, 4, 5, 4, 5, 5, 6, 3, 4, 4, 5, 4, 5, 5, 6, 4, 5, 5, 6, 5, 6, 6, 7, 1, 2, 2, 3, 2, 3, 3, 4, 2, 3, 3, 4, 3, 4, 4, 5, 2, 3, 3, 4, 3, 4, 4, 5, 3, 4, 4, 5, 4, 5, 5, 6, 2, 3, 3, 4, 3, 4, 4, 5, 3, 4, 4, 5, 4, 5, 5, 6, 3, 4, 4, 5, 4, 5, 5, 6, 4, 5, 5, 6, 5, 6, 6, 7, 2, 3, 3, 4, 3, 4, 4, 5, 3, 4, 4, 5, 4, 5, 5, 6, 3, 4, 4, 5, 4, 5, 5, 6, 4, 5, 5, 6, 5, 6, 6, 7, 3, 4, 4, 5, 4, 5, 5, 6, 4, 5, 5, 6, 5, 6, 6, 7, 4, 5, 5, 6, 5, 6, 6, 7, 5, 6, 6, 7, 6, 7, 7, 8] : List UInt8)).getD x0.toNat 0).toNat : Int))))
  else none

def bits_OnesCount8.ins : Spec := ⟨6, 0, [], [0], (.cons (.v (.int .u8)) .nil)⟩
def bits_OnesCount8.outs : List Spec := [⟨6, 0, [], [2], (.cons (.v I) .nil)⟩]
noncomputable def bits_OnesCount8.c : Callee' := ⟨31, mkFits bits_OnesCount8.ins bits_OnesCount8.outs, mkFun bits_OnesCount8.ins bits_OnesCount8.outs bits_OnesCount8⟩
theorem bits_OnesCount8.quiet : FunQuiet bits_OnesCount8.c.F := mkFun_quiet rfl rfl
noncomputable def bits_OnesCount8.ann : Ann :=
  (.seq (.reg []) (.seq (.reg []) .std))
noncomputable def bits_OnesCount8.code : Code := match Try.f31.body with | some c => c | none => .skip
theorem bits_OnesCount8.eq : absFn tt 6 bits_OnesCount8.ins bits_OnesCount8.outs bits_OnesCount8.code bits_OnesCount8.ann = bits_OnesCount8 := by
  funext a
  kernel_rfl
theorem bits_OnesCount8.ok : bits_OnesCount8.ann.ok Try.prog 0 6 :=
  ann_ok (by kernel_rfl) (by kernel_rfl) (show ∀ c ∈ ([] : List Callee'), c.ok Try.prog from cs_nil)
    (show ∀ c ∈ ([] : List Callee'), FunQuiet c.F from cs_nil)
theorem bits_OnesCount8.sound : bits_OnesCount8.c.ok Try.prog := by
  refine ⟨?_, Try.f31, bits_OnesCount8.code, Try.func31, rfl, by decide⟩
  have h := fn_sound tt_ok mix_ok (x := bits_OnesCount8.ann) (ins := bits_OnesCount8.ins) (outs := bits_OnesCount8.outs) (N := 6) Try.func31 (c := bits_OnesCount8.code) rfl rfl (by kernel_rfl) (by kernel_rfl) bits_OnesCount8.ok (by decide)
  rw [bits_OnesCount8.eq] at h
  exact h

/-! ### wainwright/marks.Count: function 24 -/
noncomputable def marks_Count.l1 : (List UInt8 × Int × Int × Int × List Int × Int × Int) → Option ((List UInt8 × Int × Int × Int × List Int × Int × Int) ⊕ (List UInt8 × Int × Int × Int)) := fun (m0, n1, whole5, c6, t27, t28, t29) =>
  if decide (t29 < t28) = true then
    if 0 ≤ t29 ∧ t29 < (t27.length : Int) then
      (bits_OnesCount8 (t27.getD t29.toNat 0)).bind fun r35 =>
        some (.inl ((m0, n1, whole5, IntKind.i64.wrap (c6 + r35), t27, t28, IntKind.i64.wrap (t29 + 1))))
    else none
  else
    some (.inr (((m0, n1, whole5, c6))))

noncomputable def marks_Count : (List UInt8 × Int) → Option (Int) := fun (m0, n1) =>
  if 0 ≤ (if (m0.length : Int) < IntKind.i64.wrap (Int.tdiv (if 100000 < (if 0 > n1 then 0 else n1) then 100000 else (if 0 > n1 then 0 else n1)) 8) then (m0.length : Int) else IntKind.i64.wrap (Int.tdiv (if 100000 < (if 0 > n1 then 0 else n1) then 100000 else (if 0 > n1 then 0 else n1)) 8)) ∧ (if (m0.length : Int) < IntKind.i64.wrap (Int.tdiv (if 100000 < (if 0 > n1 then 0 else n1) then 100000 else (if 0 > n1 then 0 else n1)) 8) then (m0.length : Int) else IntKind.i64.wrap (Int.tdiv (if 100000 < (if 0 > n1 then 0 else n1) then 100000 else (if 0 > n1 then 0 else n1)) 8)) ≤ (m0.length : Int) then
    (loopO marks_Count.l1 ((m0, (if 100000 < (if 0 > n1 then 0 else n1) then 100000 else (if 0 > n1 then 0 else n1)), (if (m0.length : Int) < IntKind.i64.wrap (Int.tdiv (if 100000 < (if 0 > n1 then 0 else n1) then 100000 else (if 0 > n1 then 0 else n1)) 8) then (m0.length : Int) else IntKind.i64.wrap (Int.tdiv (if 100000 < (if 0 > n1 then 0 else n1) then 100000 else (if 0 > n1 then 0 else n1)) 8)), (if 0 > IntKind.i64.wrap ((if 100000 < (if 0 > n1 then 0 else n1) then 100000 else (if 0 > n1 then 0 else n1)) - (IntKind.i64.wrap (8 * (m0.length : Int)))) then 0 else IntKind.i64.wrap ((if 100000 < (if 0 > n1 then 0 else n1) then 100000 else (if 0 > n1 then 0 else n1)) - (IntKind.i64.wrap (8 * (m0.length : Int))))), (m0.take ((if (m0.length : Int) < IntKind.i64.wrap (Int.tdiv (if 100000 < (if 0 > n1 then 0 else n1) then 100000 else (if 0 > n1 then 0 else n1)) 8) then (m0.length : Int) else IntKind.i64.wrap (Int.tdiv (if 100000 < (if 0 > n1 then 0 else n1) then 100000 else (if 0 > n1 then 0 else n1)) 8))).toNat).map fun b => (b.toNat : Int), (((m0.take ((if (m0.length : Int) < IntKind.i64.wrap (Int.tdiv (if 100000 < (if 0 > n1 then 0 else n1) then 100000 else (if 0 > n1 then 0 else n1)) 8) then (m0.length : Int) else IntKind.i64.wrap (Int.tdiv (if 100000 < (if 0 > n1 then 0 else n1) then 100000 else (if 0 > n1 then 0 else n1)) 8))).toNat).map fun b => (b.toNat : Int)).length : Int), 0))).bind fun (m0, n1, whole5, c6) =>
      ((
        if decide (whole5 < (m0.length : Int)) = true then
          some (((m0, whole5, c6, IntKind.i64.wrap (n1 - (IntKind.i64.wrap (8 * whole5))), decide (IntKind.i64.wrap (n1 - (IntKind.i64.wrap (8 * whole5))) > 0))))
        else
          some (((m0, whole5, c6, IntKind.i64.wrap (n1 - (IntKind.i64.wrap (8 * whole5))), false)))) : Option (List UInt8 × Int × Int × Int × Bool)).bind fun (m0, whole5, c6, rest9, t49) =>
        if t49 = true then
          if 0 ≤ whole5 ∧ whole5 < (m0.length : Int) then
            if 0 ≤ rest9 then
              (bits_OnesCount8 (bitsOp .and .u8 ((m0.getD whole5.toNat 0).toNat : Int) (IntKind.u8.wrap ((IntKind.u8.wrap (1 * 2 ^ (min rest9.toNat 8))) - 1)))).bind fun r58 =>
                some ((IntKind.i64.wrap (c6 + r58)))
            else none
          else none
        else
          some c6
  else none

def marks_Count.ins : Spec := ⟨61, 0, [], [0, 1], (.cons (.v .str) (.cons (.v I) .nil))⟩
def marks_Count.outs : List Spec := [⟨61, 0, [], [4], (.cons (.v I) .nil)⟩]
noncomputable def marks_Count.c : Callee' := ⟨24, mkFits marks_Count.ins marks_Count.outs, mkFun marks_Count.ins marks_Count.outs marks_Count⟩
theorem marks_Count.quiet : FunQuiet marks_Count.c.F := mkFun_quiet rfl rfl
noncomputable def marks_Count.ann : Ann :=
  (.seq (.reg []) (.seq (.reg []) (.seq (.reg []) (.seq (.reg []) (.seq (.seq (.reg [.std, .std, .std, .inl (.int .u8)]) (.block (.loop ⟨61, 0, [], [0, 1, 5, 6, 27, 28, 29], (.cons (.v .str) (.cons (.v I) (.cons (.v I) (.cons (.v I) (.cons (.v (.sl (.int .u8))) (.cons (.v I) (.cons (.v I) .nil)))))))⟩ [(.exit 0, ⟨61, 0, [], [0, 1, 5, 6], (.cons (.v .str) (.cons (.v I) (.cons (.v I) (.cons (.v I) .nil))))⟩)]
  (.seq (.reg []) (.seq (.cond .std .std) (.seq (.block (.seq (.reg []) (.reg [.std, .std, .callq [bits_OnesCount8.c]]))) (.reg []))))))) (.seq (.seq (.reg []) (.join [(.norm, ⟨61, 0, [], [0, 5, 6, 9, 49], (.cons (.v .str) (.cons (.v I) (.cons (.v I) (.cons (.v I) (.cons (.v .bool) .nil)))))⟩)]
  (.reg []) (.cond (.drw [.std, .std, .std, .std, .std, .std, .std, .std, .callq [bits_OnesCount8.c]]) .std))) (.seq (.reg []) .std)))))))
noncomputable def marks_Count.code : Code := match Try.f24.body with | some c => c | none => .skip
theorem marks_Count.eq : absFn tt 61 marks_Count.ins marks_Count.outs marks_Count.code marks_Count.ann = marks_Count := by
  funext a
  kernel_rfl
theorem marks_Count.ok : marks_Count.ann.ok Try.prog 0 61 :=
  ann_ok (by kernel_rfl) (by kernel_rfl) (show ∀ c ∈ ([bits_OnesCount8.c, bits_OnesCount8.c] : List Callee'), c.ok Try.prog from cs_cons bits_OnesCount8.sound (cs_cons bits_OnesCount8.sound cs_nil))
    (show ∀ c ∈ ([bits_OnesCount8.c, bits_OnesCount8.c] : List Callee'), FunQuiet c.F from cs_cons bits_OnesCount8.quiet (cs_cons bits_OnesCount8.quiet cs_nil))
theorem marks_Count.sound : marks_Count.c.ok Try.prog := by
  refine ⟨?_, Try.f24, marks_Count.code, Try.func24, rfl, by decide⟩
  have h := fn_sound tt_ok mix_ok (x := marks_Count.ann) (ins := marks_Count.ins) (outs := marks_Count.outs) (N := 61) Try.func24 (c := marks_Count.code) rfl rfl (by kernel_rfl) (by kernel_rfl) marks_Count.ok (by decide)
  rw [marks_Count.eq] at h
  exact h

/-! ### wainwright/wainwrightlaw03.lives: function 18 -/
noncomputable def wainwrightlaw03_lives : Unit → Option (Bool) := fun _ =>
  (marks_First (([5] : List UInt8), 0, 8)).bind fun (r8, r8_2) =>
    (marks_Run (([5] : List UInt8), 0, 8, 2)).bind fun (r12, r12_2) =>
      (marks_Longest (([5] : List UInt8), 8)).bind fun (r16, r16_2) =>
        (marks_Is (([5] : List UInt8), 2)).bind fun r19 =>
          if r19 = true then
            (marks_Is (([5] : List UInt8), 1)).bind fun r21 =>
              if (!r21) = true then
                if r8_2 = true then
                  if (r8 == 1) = true then
                    if r12_2 = true then
                      if (r12 == 3) = true then
                        if (r16 == 3) = true then
                          if (r16_2 == 5) = true then
                            (marks_Count (([5] : List UInt8), 8)).bind fun r47 =>
                              some (((r47 == 2)))
                          else
                            some false
                        else
                          some false
                      else
                        some false
                    else
                      some false
                  else
                    some false
                else
                  some false
              else
                some false
          else
            some false

def wainwrightlaw03_lives.ins : Spec := ⟨50, 0, [], [], .nil⟩
def wainwrightlaw03_lives.outs : List Spec := [⟨50, 0, [], [0], (.cons (.v .bool) .nil)⟩]
noncomputable def wainwrightlaw03_lives.c : Callee' := ⟨18, mkFits wainwrightlaw03_lives.ins wainwrightlaw03_lives.outs, mkFun wainwrightlaw03_lives.ins wainwrightlaw03_lives.outs wainwrightlaw03_lives⟩
theorem wainwrightlaw03_lives.quiet : FunQuiet wainwrightlaw03_lives.c.F := mkFun_quiet rfl rfl
noncomputable def wainwrightlaw03_lives.ann : Ann :=
  (.seq (.reg []) (.seq (.reg [.callq [marks_First.c]]) (.seq (.reg [.callq [marks_Run.c]]) (.seq (.reg [.callq [marks_Longest.c]]) (.seq (.reg [.callq [marks_Is.c], .std, .callq [marks_Is.c], .std, .std, .std, .std, .std, .std, .std, .std, .std, .std, .std, .std, .std, .std, .std, .std, .std, .std, .std, .std, .std, .std, .std, .std, .std, .callq [marks_Count.c]]) .std)))))
noncomputable def wainwrightlaw03_lives.code : Code := match Try.f18.body with | some c => c | none => .skip
theorem wainwrightlaw03_lives.eq : absFn tt 50 wainwrightlaw03_lives.ins wainwrightlaw03_lives.outs wainwrightlaw03_lives.code wainwrightlaw03_lives.ann = wainwrightlaw03_lives := by
  funext a
  kernel_rfl
theorem wainwrightlaw03_lives.ok : wainwrightlaw03_lives.ann.ok Try.prog 0 50 :=
  ann_ok (by kernel_rfl) (by kernel_rfl) (show ∀ c ∈ ([marks_First.c, marks_Run.c, marks_Longest.c, marks_Is.c, marks_Is.c, marks_Count.c] : List Callee'), c.ok Try.prog from cs_cons marks_First.sound (cs_cons marks_Run.sound (cs_cons marks_Longest.sound (cs_cons marks_Is.sound (cs_cons marks_Is.sound (cs_cons marks_Count.sound cs_nil))))))
    (show ∀ c ∈ ([marks_First.c, marks_Run.c, marks_Longest.c, marks_Is.c, marks_Is.c, marks_Count.c] : List Callee'), FunQuiet c.F from cs_cons marks_First.quiet (cs_cons marks_Run.quiet (cs_cons marks_Longest.quiet (cs_cons marks_Is.quiet (cs_cons marks_Is.quiet (cs_cons marks_Count.quiet cs_nil))))))
theorem wainwrightlaw03_lives.sound : wainwrightlaw03_lives.c.ok Try.prog := by
  refine ⟨?_, Try.f18, wainwrightlaw03_lives.code, Try.func18, rfl, by decide⟩
  have h := fn_sound tt_ok mix_ok (x := wainwrightlaw03_lives.ann) (ins := wainwrightlaw03_lives.ins) (outs := wainwrightlaw03_lives.outs) (N := 50) Try.func18 (c := wainwrightlaw03_lives.code) rfl rfl (by kernel_rfl) (by kernel_rfl) wainwrightlaw03_lives.ok (by decide)
  rw [wainwrightlaw03_lives.eq] at h
  exact h

/-! ### wainwright/wainwrightlaw03.early: function 19 -/
noncomputable def wainwrightlaw03_early : List UInt8 → Option (List UInt8) := fun m0 =>
  if 0 ≤ (if 60 < (m0.length : Int) then 60 else (m0.length : Int)) ∧ (if 60 < (m0.length : Int) then 60 else (m0.length : Int)) ≤ (m0.length : Int) then
    some ((m0.take ((if 60 < (m0.length : Int) then 60 else (m0.length : Int))).toNat))
  else none

def wainwrightlaw03_early.ins : Spec := ⟨8, 0, [], [0], (.cons (.v .str) .nil)⟩
def wainwrightlaw03_early.outs : List Spec := [⟨8, 0, [], [2], (.cons (.v .str) .nil)⟩]
noncomputable def wainwrightlaw03_early.c : Callee' := ⟨19, mkFits wainwrightlaw03_early.ins wainwrightlaw03_early.outs, mkFun wainwrightlaw03_early.ins wainwrightlaw03_early.outs wainwrightlaw03_early⟩
theorem wainwrightlaw03_early.quiet : FunQuiet wainwrightlaw03_early.c.F := mkFun_quiet rfl rfl
noncomputable def wainwrightlaw03_early.ann : Ann :=
  (.seq (.reg []) (.seq (.reg []) .std))
noncomputable def wainwrightlaw03_early.code : Code := match Try.f19.body with | some c => c | none => .skip
theorem wainwrightlaw03_early.eq : absFn tt 8 wainwrightlaw03_early.ins wainwrightlaw03_early.outs wainwrightlaw03_early.code wainwrightlaw03_early.ann = wainwrightlaw03_early := by
  funext a
  kernel_rfl
theorem wainwrightlaw03_early.ok : wainwrightlaw03_early.ann.ok Try.prog 0 8 :=
  ann_ok (by kernel_rfl) (by kernel_rfl) (show ∀ c ∈ ([] : List Callee'), c.ok Try.prog from cs_nil)
    (show ∀ c ∈ ([] : List Callee'), FunQuiet c.F from cs_nil)
theorem wainwrightlaw03_early.sound : wainwrightlaw03_early.c.ok Try.prog := by
  refine ⟨?_, Try.f19, wainwrightlaw03_early.code, Try.func19, rfl, by decide⟩
  have h := fn_sound tt_ok mix_ok (x := wainwrightlaw03_early.ann) (ins := wainwrightlaw03_early.ins) (outs := wainwrightlaw03_early.outs) (N := 8) Try.func19 (c := wainwrightlaw03_early.code) rfl rfl (by kernel_rfl) (by kernel_rfl) wainwrightlaw03_early.ok (by decide)
  rw [wainwrightlaw03_early.eq] at h
  exact h

/-! ### wainwright/wainwrightref03.Is: function 21 -/
noncomputable def wainwrightref03_Is.l1 : (Int × Int × Int) → Option ((Int × Int × Int) ⊕ Int) := fun (i1, x5, k6) =>
  if decide (k6 < Int.tmod i1 8) = true then
    some (.inl ((i1, IntKind.i64.wrap (Int.tdiv x5 2), IntKind.i64.wrap (k6 + 1))))
  else
    some (.inr x5)

noncomputable def wainwrightref03_Is : (List UInt8 × Int) → Option (Bool) := fun (m0, i1) =>
  if decide (i1 < 0) = false then
    if decide (i1 ≥ IntKind.i64.wrap (8 * (m0.length : Int))) = true then
      some true
    else
      if 0 ≤ IntKind.i64.wrap (Int.tdiv i1 8) ∧ IntKind.i64.wrap (Int.tdiv i1 8) < (m0.length : Int) then
        (loopO wainwrightref03_Is.l1 ((i1, IntKind.i64.wrap (((m0.getD ((IntKind.i64.wrap (Int.tdiv i1 8)).toNat) 0).toNat : Int)), 0))).bind fun x5 =>
          some (((Int.tmod x5 2 == 1)))
      else none
  else
    some true

def wainwrightref03_Is.ins : Spec := ⟨32, 0, [], [0, 1], (.cons (.v .str) (.cons (.v I) .nil))⟩
def wainwrightref03_Is.outs : List Spec := [⟨32, 0, [], [4], (.cons (.v .bool) .nil)⟩]
noncomputable def wainwrightref03_Is.c : Callee' := ⟨21, mkFits wainwrightref03_Is.ins wainwrightref03_Is.outs, mkFun wainwrightref03_Is.ins wainwrightref03_Is.outs wainwrightref03_Is⟩
theorem wainwrightref03_Is.quiet : FunQuiet wainwrightref03_Is.c.F := mkFun_quiet rfl rfl
noncomputable def wainwrightref03_Is.ann : Ann :=
  (.seq (.reg []) (.seq (.seq (.reg []) (.cond (.seq (.reg []) .std) .std)) (.seq (.reg []) (.seq (.seq (.reg []) (.block (.loop ⟨32, 0, [], [1, 5, 6], (.cons (.v I) (.cons (.v I) (.cons (.v I) .nil)))⟩ [(.exit 0, ⟨32, 0, [], [5], (.cons (.v I) .nil)⟩)]
  (.seq (.seq (.reg []) (.cond .std .std)) (.seq (.block (.reg [])) (.reg [])))))) (.seq (.reg []) .std)))))
noncomputable def wainwrightref03_Is.code : Code := match Try.f21.body with | some c => c | none => .skip
theorem wainwrightref03_Is.eq : absFn tt 32 wainwrightref03_Is.ins wainwrightref03_Is.outs wainwrightref03_Is.code wainwrightref03_Is.ann = wainwrightref03_Is := by
  funext a
  kernel_rfl
theorem wainwrightref03_Is.ok : wainwrightref03_Is.ann.ok Try.prog 0 32 :=
  ann_ok (by kernel_rfl) (by kernel_rfl) (show ∀ c ∈ ([] : List Callee'), c.ok Try.prog from cs_nil)
    (show ∀ c ∈ ([] : List Callee'), FunQuiet c.F from cs_nil)
theorem wainwrightref03_Is.sound : wainwrightref03_Is.c.ok Try.prog := by
  refine ⟨?_, Try.f21, wainwrightref03_Is.code, Try.func21, rfl, by decide⟩
  have h := fn_sound tt_ok mix_ok (x := wainwrightref03_Is.ann) (ins := wainwrightref03_Is.ins) (outs := wainwrightref03_Is.outs) (N := 32) Try.func21 (c := wainwrightref03_Is.code) rfl rfl (by kernel_rfl) (by kernel_rfl) wainwrightref03_Is.ok (by decide)
  rw [wainwrightref03_Is.eq] at h
  exact h

/-! ### wainwright/marks.Set: function 22 -/
noncomputable def marks_Set : (List UInt8 × Int × Bool) → Option (List UInt8) := fun (m0, i1, yes2) =>
  (marks_there (m0, i1)).bind fun r10 =>
    if (!r10) = false then
      (marks_Is (m0, i1)).bind fun r15 =>
        if (r15 == yes2) = true then
          some m0
        else
          if 0 ≤ IntKind.i64.wrap (Int.tdiv i1 8) ∧ IntKind.i64.wrap (Int.tdiv i1 8) < ((m0.map fun b => (b.toNat : Int)).length : Int) then
            if 0 ≤ Int.tmod i1 8 then
              if 0 ≤ IntKind.i64.wrap (Int.tdiv i1 8) ∧ IntKind.i64.wrap (Int.tdiv i1 8) < ((m0.map fun b => (b.toNat : Int)).length : Int) then
                some ((((m0.map fun b => (b.toNat : Int)).set ((IntKind.i64.wrap (Int.tdiv i1 8)).toNat) (bitsOp .xor .u8 ((m0.map fun b => (b.toNat : Int)).getD ((IntKind.i64.wrap (Int.tdiv i1 8)).toNat) 0) (IntKind.u8.wrap (1 * 2 ^ (min (Int.tmod i1 8).toNat 8))))).map fun (n : Int) => UInt8.ofNat n.toNat))
              else none
            else none
          else none
    else
      some m0

def marks_Set.ins : Spec := ⟨34, 0, [], [0, 1, 2], (.cons (.v .str) (.cons (.v I) (.cons (.v .bool) .nil)))⟩
def marks_Set.outs : List Spec := [⟨34, 0, [], [6], (.cons (.v .str) .nil)⟩]
noncomputable def marks_Set.c : Callee' := ⟨22, mkFits marks_Set.ins marks_Set.outs, mkFun marks_Set.ins marks_Set.outs marks_Set⟩
theorem marks_Set.quiet : FunQuiet marks_Set.c.F := mkFun_quiet rfl rfl
noncomputable def marks_Set.ann : Ann :=
  (.seq (.reg []) (.seq (.seq (.reg [.std, .std, .callq [marks_there.c], .std, .std, .std, .std, .callq [marks_Is.c]]) (.cond (.seq (.reg []) .std) .std)) (.seq (.reg [.std, .obj (.int .u8)]) (.seq (.drw []) (.seq (.reg []) .std)))))
noncomputable def marks_Set.code : Code := match Try.f22.body with | some c => c | none => .skip
theorem marks_Set.eq : absFn tt 34 marks_Set.ins marks_Set.outs marks_Set.code marks_Set.ann = marks_Set := by
  funext a
  kernel_rfl
theorem marks_Set.ok : marks_Set.ann.ok Try.prog 0 34 :=
  ann_ok (by kernel_rfl) (by kernel_rfl) (show ∀ c ∈ ([marks_there.c, marks_Is.c] : List Callee'), c.ok Try.prog from cs_cons marks_there.sound (cs_cons marks_Is.sound cs_nil))
    (show ∀ c ∈ ([marks_there.c, marks_Is.c] : List Callee'), FunQuiet c.F from cs_cons marks_there.quiet (cs_cons marks_Is.quiet cs_nil))
theorem marks_Set.sound : marks_Set.c.ok Try.prog := by
  refine ⟨?_, Try.f22, marks_Set.code, Try.func22, rfl, by decide⟩
  have h := fn_sound tt_ok mix_ok (x := marks_Set.ann) (ins := marks_Set.ins) (outs := marks_Set.outs) (N := 34) Try.func22 (c := marks_Set.code) rfl rfl (by kernel_rfl) (by kernel_rfl) marks_Set.ok (by decide)
  rw [marks_Set.eq] at h
  exact h

/-! ### wainwright/wainwrightref03.Set: function 23 -/
noncomputable def wainwrightref03_Set : (List UInt8 × Int × Bool) → Option (List UInt8) := fun (m0, i1, yes2) =>
  if decide (i1 < 0) = false then
    if decide (i1 ≥ IntKind.i64.wrap (8 * (m0.length : Int))) = false then
      (wainwrightref03_Is (m0, i1)).bind fun r20 =>
        if (r20 == yes2) = true then
          some m0
        else
          if 0 ≤ IntKind.i64.wrap (Int.tdiv i1 8) ∧ IntKind.i64.wrap (Int.tdiv i1 8) < ((m0.map fun b => (b.toNat : Int)).length : Int) then
            if 0 ≤ IntKind.u64.wrap (Int.tmod i1 8) then
              if 0 ≤ IntKind.i64.wrap (Int.tdiv i1 8) ∧ IntKind.i64.wrap (Int.tdiv i1 8) < ((m0.map fun b => (b.toNat : Int)).length : Int) then
                some ((((m0.map fun b => (b.toNat : Int)).set ((IntKind.i64.wrap (Int.tdiv i1 8)).toNat) (bitsOp .xor .u8 ((m0.map fun b => (b.toNat : Int)).getD ((IntKind.i64.wrap (Int.tdiv i1 8)).toNat) 0) (IntKind.u8.wrap (1 * 2 ^ (min (IntKind.u64.wrap (Int.tmod i1 8)).toNat 8))))).map fun (n : Int) => UInt8.ofNat n.toNat))
              else none
            else none
          else none
    else
      some m0
  else
    some m0

def wainwrightref03_Set.ins : Spec := ⟨40, 0, [], [0, 1, 2], (.cons (.v .str) (.cons (.v I) (.cons (.v .bool) .nil)))⟩
def wainwrightref03_Set.outs : List Spec := [⟨40, 0, [], [6], (.cons (.v .str) .nil)⟩]
noncomputable def wainwrightref03_Set.c : Callee' := ⟨23, mkFits wainwrightref03_Set.ins wainwrightref03_Set.outs, mkFun wainwrightref03_Set.ins wainwrightref03_Set.outs wainwrightref03_Set⟩
theorem wainwrightref03_Set.quiet : FunQuiet wainwrightref03_Set.c.F := mkFun_quiet rfl rfl
noncomputable def wainwrightref03_Set.ann : Ann :=
  (.seq (.reg []) (.seq (.seq (.reg [.std, .std, .std, .std, .std, .std, .std, .std, .std, .std, .std, .std, .callq [wainwrightref03_Is.c]]) (.cond (.seq (.reg []) .std) .std)) (.seq (.reg [.std, .obj (.int .u8)]) (.seq (.reg []) (.seq (.reg []) .std)))))
noncomputable def wainwrightref03_Set.code : Code := match Try.f23.body with | some c => c | none => .skip
theorem wainwrightref03_Set.eq : absFn tt 40 wainwrightref03_Set.ins wainwrightref03_Set.outs wainwrightref03_Set.code wainwrightref03_Set.ann = wainwrightref03_Set := by
  funext a
  kernel_rfl
theorem wainwrightref03_Set.ok : wainwrightref03_Set.ann.ok Try.prog 0 40 :=
  ann_ok (by kernel_rfl) (by kernel_rfl) (show ∀ c ∈ ([wainwrightref03_Is.c] : List Callee'), c.ok Try.prog from cs_cons wainwrightref03_Is.sound cs_nil)
    (show ∀ c ∈ ([wainwrightref03_Is.c] : List Callee'), FunQuiet c.F from cs_cons wainwrightref03_Is.quiet cs_nil)
theorem wainwrightref03_Set.sound : wainwrightref03_Set.c.ok Try.prog := by
  refine ⟨?_, Try.f23, wainwrightref03_Set.code, Try.func23, rfl, by decide⟩
  have h := fn_sound tt_ok mix_ok (x := wainwrightref03_Set.ann) (ins := wainwrightref03_Set.ins) (outs := wainwrightref03_Set.outs) (N := 40) Try.func23 (c := wainwrightref03_Set.code) rfl rfl (by kernel_rfl) (by kernel_rfl) wainwrightref03_Set.ok (by decide)
  rw [wainwrightref03_Set.eq] at h
  exact h

/-! ### wainwright/wainwrightref03.Count: function 25 -/
noncomputable def wainwrightref03_Count.l1 : (List UInt8 × Int × Int × Int) → Option ((List UInt8 × Int × Int × Int) ⊕ Int) := fun (m0, n1, c5, i6) =>
  if decide (i6 < n1) = true then
    if decide (i6 < 100000) = true then
      (wainwrightref03_Is (m0, i6)).bind fun r18 =>
        if r18 = true then
          some (.inl ((m0, n1, IntKind.i64.wrap (c5 + 1), IntKind.i64.wrap (i6 + 1))))
        else
          some (.inl ((m0, n1, c5, IntKind.i64.wrap (i6 + 1))))
    else
      some (.inr c5)
  else
    some (.inr c5)

noncomputable def wainwrightref03_Count : (List UInt8 × Int) → Option (Int) := fun (m0, n1) =>
  (loopO wainwrightref03_Count.l1 ((m0, n1, 0, 0))).bind fun c5 =>
    some c5

def wainwrightref03_Count.ins : Spec := ⟨22, 0, [], [0, 1], (.cons (.v .str) (.cons (.v I) .nil))⟩
def wainwrightref03_Count.outs : List Spec := [⟨22, 0, [], [4], (.cons (.v I) .nil)⟩]
noncomputable def wainwrightref03_Count.c : Callee' := ⟨25, mkFits wainwrightref03_Count.ins wainwrightref03_Count.outs, mkFun wainwrightref03_Count.ins wainwrightref03_Count.outs wainwrightref03_Count⟩
theorem wainwrightref03_Count.quiet : FunQuiet wainwrightref03_Count.c.F := mkFun_quiet rfl rfl
noncomputable def wainwrightref03_Count.ann : Ann :=
  (.seq (.reg []) (.seq (.reg []) (.seq (.seq (.reg []) (.block (.loop ⟨22, 0, [], [0, 1, 5, 6], (.cons (.v .str) (.cons (.v I) (.cons (.v I) (.cons (.v I) .nil))))⟩ [(.exit 0, ⟨22, 0, [], [5], (.cons (.v I) .nil)⟩)]
  (.seq (.seq (.reg []) (.cond .std .std)) (.seq (.block (.seq (.reg [.std, .std, .callq [wainwrightref03_Is.c]]) (.cond (.reg []) .std))) (.reg [])))))) (.seq (.reg []) .std))))
noncomputable def wainwrightref03_Count.code : Code := match Try.f25.body with | some c => c | none => .skip
theorem wainwrightref03_Count.eq : absFn tt 22 wainwrightref03_Count.ins wainwrightref03_Count.outs wainwrightref03_Count.code wainwrightref03_Count.ann = wainwrightref03_Count := by
  funext a
  kernel_rfl
theorem wainwrightref03_Count.ok : wainwrightref03_Count.ann.ok Try.prog 0 22 :=
  ann_ok (by kernel_rfl) (by kernel_rfl) (show ∀ c ∈ ([wainwrightref03_Is.c] : List Callee'), c.ok Try.prog from cs_cons wainwrightref03_Is.sound cs_nil)
    (show ∀ c ∈ ([wainwrightref03_Is.c] : List Callee'), FunQuiet c.F from cs_cons wainwrightref03_Is.quiet cs_nil)
theorem wainwrightref03_Count.sound : wainwrightref03_Count.c.ok Try.prog := by
  refine ⟨?_, Try.f25, wainwrightref03_Count.code, Try.func25, rfl, by decide⟩
  have h := fn_sound tt_ok mix_ok (x := wainwrightref03_Count.ann) (ins := wainwrightref03_Count.ins) (outs := wainwrightref03_Count.outs) (N := 22) Try.func25 (c := wainwrightref03_Count.code) rfl rfl (by kernel_rfl) (by kernel_rfl) wainwrightref03_Count.ok (by decide)
  rw [wainwrightref03_Count.eq] at h
  exact h

/-! ### wainwright/wainwrightlaw03.MarksBits: function 7 -/
noncomputable def wainwrightlaw03_MarksBits : (List UInt8 × Int × Bool) → Option (Bool) := fun (m0, i1, yes2) =>
  (wainwrightlaw03_lives ()).bind fun r7 =>
    if (!r7) = true then
      some false
    else
      (wainwrightlaw03_early m0).bind fun r10 =>
        (marks_Is (r10, i1)).bind fun r13 =>
          (wainwrightref03_Is (r10, i1)).bind fun r16 =>
            if (r13 == r16) = true then
              (marks_Set (r10, i1, yes2)).bind fun r22 =>
                (wainwrightref03_Set (r10, i1, yes2)).bind fun r26 =>
                  if (r22 == r26) = true then
                    (marks_Count (r10, i1)).bind fun r32 =>
                      (wainwrightref03_Count (r10, i1)).bind fun r35 =>
                        some (((r32 == r35)))
                  else
                    some false
            else
              some false

def wainwrightlaw03_MarksBits.ins : Spec := ⟨38, 0, [], [0, 1, 2], (.cons (.v .str) (.cons (.v I) (.cons (.v .bool) .nil)))⟩
def wainwrightlaw03_MarksBits.outs : List Spec := [⟨38, 0, [], [6], (.cons (.v .bool) .nil)⟩]
noncomputable def wainwrightlaw03_MarksBits.c : Callee' := ⟨7, mkFits wainwrightlaw03_MarksBits.ins wainwrightlaw03_MarksBits.outs, mkFun wainwrightlaw03_MarksBits.ins wainwrightlaw03_MarksBits.outs wainwrightlaw03_MarksBits⟩
theorem wainwrightlaw03_MarksBits.quiet : FunQuiet wainwrightlaw03_MarksBits.c.F := mkFun_quiet rfl rfl
noncomputable def wainwrightlaw03_MarksBits.ann : Ann :=
  (.seq (.reg []) (.seq (.seq (.reg [.callq [wainwrightlaw03_lives.c]]) (.cond (.seq (.reg []) .std) .std)) (.seq (.reg [.std, .callq [wainwrightlaw03_early.c]]) (.seq (.reg [.std, .std, .callq [marks_Is.c], .std, .std, .callq [wainwrightref03_Is.c], .std, .std, .std, .std, .std, .callq [marks_Set.c], .std, .std, .std, .callq [wainwrightref03_Set.c], .std, .std, .std, .std, .std, .callq [marks_Count.c], .std, .std, .callq [wainwrightref03_Count.c]]) .std))))
noncomputable def wainwrightlaw03_MarksBits.code : Code := match Try.f7.body with | some c => c | none => .skip
theorem wainwrightlaw03_MarksBits.eq : absFn tt 38 wainwrightlaw03_MarksBits.ins wainwrightlaw03_MarksBits.outs wainwrightlaw03_MarksBits.code wainwrightlaw03_MarksBits.ann = wainwrightlaw03_MarksBits := by
  funext a
  kernel_rfl
theorem wainwrightlaw03_MarksBits.ok : wainwrightlaw03_MarksBits.ann.ok Try.prog 0 38 :=
  ann_ok (by kernel_rfl) (by kernel_rfl) (show ∀ c ∈ ([wainwrightlaw03_lives.c, wainwrightlaw03_early.c, marks_Is.c, wainwrightref03_Is.c, marks_Set.c, wainwrightref03_Set.c, marks_Count.c, wainwrightref03_Count.c] : List Callee'), c.ok Try.prog from cs_cons wainwrightlaw03_lives.sound (cs_cons wainwrightlaw03_early.sound (cs_cons marks_Is.sound (cs_cons wainwrightref03_Is.sound (cs_cons marks_Set.sound (cs_cons wainwrightref03_Set.sound (cs_cons marks_Count.sound (cs_cons wainwrightref03_Count.sound cs_nil))))))))
    (show ∀ c ∈ ([wainwrightlaw03_lives.c, wainwrightlaw03_early.c, marks_Is.c, wainwrightref03_Is.c, marks_Set.c, wainwrightref03_Set.c, marks_Count.c, wainwrightref03_Count.c] : List Callee'), FunQuiet c.F from cs_cons wainwrightlaw03_lives.quiet (cs_cons wainwrightlaw03_early.quiet (cs_cons marks_Is.quiet (cs_cons wainwrightref03_Is.quiet (cs_cons marks_Set.quiet (cs_cons wainwrightref03_Set.quiet (cs_cons marks_Count.quiet (cs_cons wainwrightref03_Count.quiet cs_nil))))))))
theorem wainwrightlaw03_MarksBits.sound : wainwrightlaw03_MarksBits.c.ok Try.prog := by
  refine ⟨?_, Try.f7, wainwrightlaw03_MarksBits.code, Try.func7, rfl, by decide⟩
  have h := fn_sound tt_ok mix_ok (x := wainwrightlaw03_MarksBits.ann) (ins := wainwrightlaw03_MarksBits.ins) (outs := wainwrightlaw03_MarksBits.outs) (N := 38) Try.func7 (c := wainwrightlaw03_MarksBits.code) rfl rfl (by kernel_rfl) (by kernel_rfl) wainwrightlaw03_MarksBits.ok (by decide)
  rw [wainwrightlaw03_MarksBits.eq] at h
  exact h

/-! ### wainwright/wainwrightlaw03.MarksSet: function 8 -/
noncomputable def wainwrightlaw03_MarksSet.l1 : (List UInt8 × Int × List UInt8 × Int) → Option ((List UInt8 × Int × List UInt8 × Int) ⊕ ((List UInt8 × Int × List UInt8) ⊕ Bool)) := fun (m0, i1, x7, k8) =>
  if decide (k8 < IntKind.i64.wrap (8 * (m0.length : Int))) = true then
    if (k8 != i1) = true then
      (marks_Is (x7, k8)).bind fun r59 =>
        (marks_Is (m0, k8)).bind fun r62 =>
          if (!(r59 == r62)) = true then
            some (.inr (.inr false))
          else
            some (.inl ((m0, i1, x7, IntKind.i64.wrap (k8 + 1))))
    else
      some (.inl ((m0, i1, x7, IntKind.i64.wrap (k8 + 1))))
  else
    some (.inr (.inl ((m0, i1, x7))))

noncomputable def wainwrightlaw03_MarksSet : (List UInt8 × Int × Bool) → Option (Bool) := fun (m0, i1, yes2) =>
  (wainwrightlaw03_lives ()).bind fun r9 =>
    if (!r9) = true then
      some false
    else
      (wainwrightlaw03_early m0).bind fun r12 =>
        (marks_Set (r12, i1, yes2)).bind fun r16 =>
          ((
            if decide (i1 < 0) = false then
              some (((r12, i1, yes2, r16, decide (i1 ≥ IntKind.i64.wrap (8 * (r12.length : Int))))))
            else
              some (((r12, i1, yes2, r16, true)))) : Option (List UInt8 × Int × Bool × List UInt8 × Bool)).bind fun (m0, i1, yes2, x7, t25) =>
            if t25 = true then
              if (x7 == m0) = true then
                (marks_Is (m0, i1)).bind fun r32 =>
                  some r32
              else
                some false
            else
              if ((x7.length : Int) != (m0.length : Int)) = false then
                (marks_Is (x7, i1)).bind fun r42 =>
                  if (!(r42 == yes2)) = true then
                    some false
                  else
                    (loopO wainwrightlaw03_MarksSet.l1 ((m0, i1, x7, 0))).bind fun d => match d with
                    | .inl (m0, i1, x7) =>
                      (marks_Is (m0, i1)).bind fun r69 =>
                        (marks_Set (x7, i1, r69)).bind fun r70 =>
                          some (((r70 == m0)))
                    | .inr t6 =>
                      some t6
              else
                some false

def wainwrightlaw03_MarksSet.ins : Spec := ⟨73, 0, [], [0, 1, 2], (.cons (.v .str) (.cons (.v I) (.cons (.v .bool) .nil)))⟩
def wainwrightlaw03_MarksSet.outs : List Spec := [⟨73, 0, [], [6], (.cons (.v .bool) .nil)⟩]
noncomputable def wainwrightlaw03_MarksSet.c : Callee' := ⟨8, mkFits wainwrightlaw03_MarksSet.ins wainwrightlaw03_MarksSet.outs, mkFun wainwrightlaw03_MarksSet.ins wainwrightlaw03_MarksSet.outs wainwrightlaw03_MarksSet⟩
theorem wainwrightlaw03_MarksSet.quiet : FunQuiet wainwrightlaw03_MarksSet.c.F := mkFun_quiet rfl rfl
noncomputable def wainwrightlaw03_MarksSet.ann : Ann :=
  (.seq (.reg []) (.seq (.seq (.reg [.callq [wainwrightlaw03_lives.c]]) (.cond (.seq (.reg []) .std) .std)) (.seq (.reg [.std, .callq [wainwrightlaw03_early.c]]) (.seq (.reg [.std, .std, .std, .callq [marks_Set.c]]) (.seq (.join [(.norm, ⟨73, 0, [], [0, 1, 2, 7, 25], (.cons (.v .str) (.cons (.v I) (.cons (.v .bool) (.cons (.v .str) (.cons (.v .bool) .nil)))))⟩)]
  (.reg []) (.cond (.seq (.reg [.std, .std, .std, .std, .std, .std, .callq [marks_Is.c]]) .std) .std)) (.seq (.seq (.reg [.std, .std, .std, .std, .std, .std, .std, .std, .callq [marks_Is.c]]) (.cond (.seq (.reg []) .std) .std)) (.seq (.seq (.reg []) (.block (.loop ⟨73, 0, [], [0, 1, 7, 8], (.cons (.v .str) (.cons (.v I) (.cons (.v .str) (.cons (.v I) .nil))))⟩ [(.exit 0, ⟨73, 0, [], [0, 1, 7], (.cons (.v .str) (.cons (.v I) (.cons (.v .str) .nil)))⟩), (.ret, ⟨73, 0, [], [6], (.cons (.v .bool) .nil)⟩)]
  (.seq (.seq (.reg []) (.cond .std .std)) (.seq (.block (.seq (.reg [.std, .std, .std, .std, .std, .std, .callq [marks_Is.c], .std, .std, .callq [marks_Is.c]]) (.cond (.seq (.reg []) .std) .std))) (.reg [])))))) (.seq (.reg [.std, .std, .std, .std, .callq [marks_Is.c], .callq [marks_Set.c]]) .std))))))))
noncomputable def wainwrightlaw03_MarksSet.code : Code := match Try.f8.body with | some c => c | none => .skip
theorem wainwrightlaw03_MarksSet.eq : absFn tt 73 wainwrightlaw03_MarksSet.ins wainwrightlaw03_MarksSet.outs wainwrightlaw03_MarksSet.code wainwrightlaw03_MarksSet.ann = wainwrightlaw03_MarksSet := by
  funext a
  kernel_rfl
theorem wainwrightlaw03_MarksSet.ok : wainwrightlaw03_MarksSet.ann.ok Try.prog 0 73 :=
  ann_ok (by kernel_rfl) (by kernel_rfl) (show ∀ c ∈ ([wainwrightlaw03_lives.c, wainwrightlaw03_early.c, marks_Set.c, marks_Is.c, marks_Is.c, marks_Is.c, marks_Is.c, marks_Is.c, marks_Set.c] : List Callee'), c.ok Try.prog from cs_cons wainwrightlaw03_lives.sound (cs_cons wainwrightlaw03_early.sound (cs_cons marks_Set.sound (cs_cons marks_Is.sound (cs_cons marks_Is.sound (cs_cons marks_Is.sound (cs_cons marks_Is.sound (cs_cons marks_Is.sound (cs_cons marks_Set.sound cs_nil)))))))))
    (show ∀ c ∈ ([wainwrightlaw03_lives.c, wainwrightlaw03_early.c, marks_Set.c, marks_Is.c, marks_Is.c, marks_Is.c, marks_Is.c, marks_Is.c, marks_Set.c] : List Callee'), FunQuiet c.F from cs_cons wainwrightlaw03_lives.quiet (cs_cons wainwrightlaw03_early.quiet (cs_cons marks_Set.quiet (cs_cons marks_Is.quiet (cs_cons marks_Is.quiet (cs_cons marks_Is.quiet (cs_cons marks_Is.quiet (cs_cons marks_Is.quiet (cs_cons marks_Set.quiet cs_nil)))))))))
theorem wainwrightlaw03_MarksSet.sound : wainwrightlaw03_MarksSet.c.ok Try.prog := by
  refine ⟨?_, Try.f8, wainwrightlaw03_MarksSet.code, Try.func8, rfl, by decide⟩
  have h := fn_sound tt_ok mix_ok (x := wainwrightlaw03_MarksSet.ann) (ins := wainwrightlaw03_MarksSet.ins) (outs := wainwrightlaw03_MarksSet.outs) (N := 73) Try.func8 (c := wainwrightlaw03_MarksSet.code) rfl rfl (by kernel_rfl) (by kernel_rfl) wainwrightlaw03_MarksSet.ok (by decide)
  rw [wainwrightlaw03_MarksSet.eq] at h
  exact h

/-! ### wainwright/wainwrightlaw03.MarksTaken: function 9 -/
noncomputable def wainwrightlaw03_MarksTaken.l1 : ((Int × Int × Int) × List UInt8 × Int × List UInt8 × Int) → Option (((Int × Int × Int) × List UInt8 × Int × List UInt8 × Int) ⊕ (((Int × Int × Int) × List UInt8 × Int × List UInt8) ⊕ Bool)) := fun ((at3a, at3b, at3c), m0, i5, x9, k10) =>
  if decide (k10 < at3c) = true then
    (marks_Is (x9, IntKind.i64.wrap (i5 + k10))).bind fun r79 =>
      if r79 = true then
        some (.inr (.inr false))
      else
        (marks_Set (x9, IntKind.i64.wrap (i5 + k10), true)).bind fun r84 =>
          some (.inl (((at3a, at3b, at3c), m0, i5, r84, IntKind.i64.wrap (k10 + 1))))
  else
    some (.inr (.inl (((at3a, at3b, at3c), m0, i5, x9))))

noncomputable def wainwrightlaw03_MarksTaken : (List UInt8 × Int × Int × Int) → Option (Bool) := fun (m0, at1) =>
  (wainwrightlaw03_lives ()).bind fun r13 =>
    if (!r13) = true then
      some false
    else
      (wainwrightlaw03_early m0).bind fun r16 =>
        (marks_Run (r16, at1.1, at1.2.1, at1.2.2)).bind fun (r25, r25_2) =>
          if (!r25_2) = true then
            (marks_Longest (r16, at1.2.1)).bind fun (r34, r34_2) =>
              if (r25 == 0) = true then
                if decide (at1.1 > 0) = false then
                  if decide (at1.2.2 < 1) = false then
                    some ((decide (r34_2 < at1.2.2)))
                  else
                    some true
                else
                  some true
              else
                some false
          else
            if decide (r25 < at1.1) = false then
              if decide (IntKind.i64.wrap (r25 + at1.2.2) > at1.2.1) = true then
                some false
              else
                (loopO wainwrightlaw03_MarksTaken.l1 (((at1.1, at1.2.1, at1.2.2), r16, r25, r16, 0))).bind fun d => match d with
                | .inl ((at3a, at3b, at3c), m0, i5, x9) =>
                  (marks_Run (x9, at3a, at3b, at3c)).bind fun (r93, r93_2) =>
                    (marks_Count (x9, at3b)).bind fun r99 =>
                      (marks_Count (m0, at3b)).bind fun r103 =>
                        if (r99 == IntKind.i64.wrap (r103 + at3c)) = true then
                          if (!r93_2) = false then
                            some ((decide (r93 > i5)))
                          else
                            some true
                        else
                          some false
                | .inr t4 =>
                  some t4
            else
              some false

def wainwrightlaw03_MarksTaken.ins : Spec := ⟨117, 0, [], [0, 1], (.cons (.v .str) (.cons (.v (.st (.pair I (.pair I I)))) .nil))⟩
def wainwrightlaw03_MarksTaken.outs : List Spec := [⟨117, 0, [], [4], (.cons (.v .bool) .nil)⟩]
noncomputable def wainwrightlaw03_MarksTaken.c : Callee' := ⟨9, mkFits wainwrightlaw03_MarksTaken.ins wainwrightlaw03_MarksTaken.outs, mkFun wainwrightlaw03_MarksTaken.ins wainwrightlaw03_MarksTaken.outs wainwrightlaw03_MarksTaken⟩
theorem wainwrightlaw03_MarksTaken.quiet : FunQuiet wainwrightlaw03_MarksTaken.c.F := mkFun_quiet rfl rfl
noncomputable def wainwrightlaw03_MarksTaken.ann : Ann :=
  (.seq (.reg []) (.seq (.seq (.reg [.callq [wainwrightlaw03_lives.c]]) (.cond (.seq (.reg []) .std) .std)) (.seq (.reg [.std, .callq [wainwrightlaw03_early.c]]) (.seq (.reg [.std, .std, .std, .std, .std, .std, .std, .callq [marks_Run.c]]) (.seq (.seq (.reg []) (.cond (.seq (.reg [.std, .std, .std, .callq [marks_Longest.c]]) (.seq (.reg []) .std)) .std)) (.seq (.seq (.reg []) (.cond (.seq (.reg []) .std) .std)) (.seq (.reg []) (.seq (.seq (.reg []) (.block (.loop ⟨117, 0, [.box (.cons (.v I) (.cons (.v I) (.cons (.v I) .nil)))], [0, 3, 5, 9, 10], (.cons (.v .str) (.cons (.ref 0) (.cons (.v I) (.cons (.v .str) (.cons (.v I) .nil)))))⟩ [(.exit 0, ⟨117, 0, [.box (.cons (.v I) (.cons (.v I) (.cons (.v I) .nil)))], [0, 3, 5, 9], (.cons (.v .str) (.cons (.ref 0) (.cons (.v I) (.cons (.v .str) .nil))))⟩), (.ret, ⟨117, 0, [], [4], (.cons (.v .bool) .nil)⟩)]
  (.seq (.seq (.reg []) (.cond .std .std)) (.seq (.block (.seq (.seq (.reg [.std, .std, .std, .std, .callq [marks_Is.c]]) (.cond (.seq (.reg []) .std) .std)) (.reg [.std, .std, .std, .std, .callq [marks_Set.c]]))) (.reg [])))))) (.seq (.reg [.std, .std, .std, .std, .std, .std, .std, .callq [marks_Run.c]]) (.seq (.drw [.std, .std, .std, .callq [marks_Count.c], .std, .std, .std, .callq [marks_Count.c]]) .std))))))))))
noncomputable def wainwrightlaw03_MarksTaken.code : Code := match Try.f9.body with | some c => c | none => .skip
theorem wainwrightlaw03_MarksTaken.eq : absFn tt 117 wainwrightlaw03_MarksTaken.ins wainwrightlaw03_MarksTaken.outs wainwrightlaw03_MarksTaken.code wainwrightlaw03_MarksTaken.ann = wainwrightlaw03_MarksTaken := by
  funext a
  kernel_rfl
theorem wainwrightlaw03_MarksTaken.ok : wainwrightlaw03_MarksTaken.ann.ok Try.prog 0 117 :=
  ann_ok (by kernel_rfl) (by kernel_rfl) (show ∀ c ∈ ([wainwrightlaw03_lives.c, wainwrightlaw03_early.c, marks_Run.c, marks_Longest.c, marks_Is.c, marks_Set.c, marks_Run.c, marks_Count.c, marks_Count.c] : List Callee'), c.ok Try.prog from cs_cons wainwrightlaw03_lives.sound (cs_cons wainwrightlaw03_early.sound (cs_cons marks_Run.sound (cs_cons marks_Longest.sound (cs_cons marks_Is.sound (cs_cons marks_Set.sound (cs_cons marks_Run.sound (cs_cons marks_Count.sound (cs_cons marks_Count.sound cs_nil)))))))))
    (show ∀ c ∈ ([wainwrightlaw03_lives.c, wainwrightlaw03_early.c, marks_Run.c, marks_Longest.c, marks_Is.c, marks_Set.c, marks_Run.c, marks_Count.c, marks_Count.c] : List Callee'), FunQuiet c.F from cs_cons wainwrightlaw03_lives.quiet (cs_cons wainwrightlaw03_early.quiet (cs_cons marks_Run.quiet (cs_cons marks_Longest.quiet (cs_cons marks_Is.quiet (cs_cons marks_Set.quiet (cs_cons marks_Run.quiet (cs_cons marks_Count.quiet (cs_cons marks_Count.quiet cs_nil)))))))))
theorem wainwrightlaw03_MarksTaken.sound : wainwrightlaw03_MarksTaken.c.ok Try.prog := by
  refine ⟨?_, Try.f9, wainwrightlaw03_MarksTaken.code, Try.func9, rfl, by decide⟩
  have h := fn_sound tt_ok mix_ok (x := wainwrightlaw03_MarksTaken.ann) (ins := wainwrightlaw03_MarksTaken.ins) (outs := wainwrightlaw03_MarksTaken.outs) (N := 117) Try.func9 (c := wainwrightlaw03_MarksTaken.code) rfl rfl (by kernel_rfl) (by kernel_rfl) wainwrightlaw03_MarksTaken.ok (by decide)
  rw [wainwrightlaw03_MarksTaken.eq] at h
  exact h

end Go.Proofs.Ytldmeogadmgkiaa.Abs
