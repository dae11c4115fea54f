/- The functions as the abstract machine computes them: printed by gen2.py (own work). -/
import Derived.Test.YtnbhmifidhoblaaDoorPaths
import Derived.Test.YtnbhmifidhoblaaDoorProg
import Derived.Test.YtnbhmifidhoblaaDoorAbsFn
import Derived.KernelRfl
namespace Go.Proofs.YtnbhmifidhoblaaDoor.Abs
open Go Go.Proofs
set_option maxRecDepth 100000
set_option linter.unusedVariables false

def tt : Nat → TI
  | 3 => ⟨.int .i64, 1, 8, [.int .i64 0]⟩
  | 4 => ⟨.bool, 1, 1, [.bool false]⟩
  | 5 => ⟨.int .u8, 1, 1, [.int .u8 0]⟩
  | 9 => ⟨.str, 1, 16, [.string .empty]⟩
  | 22 => ⟨.sl 33, 1, 24, [.slice none 0 0]⟩
  | 25 => ⟨.int .i64, 1, 8, [.int .i64 0]⟩
  | 33 => ⟨.st [(9, 0), (3, 1)], 2, 24, [.string .empty, .int .i64 0]⟩
  | 51 => ⟨.map 9 3, 1, 8, [.map none]⟩
  | 80 => ⟨.sl 22, 1, 24, [.slice none 0 0]⟩
  | _ => ⟨.other, 0, 0, []⟩
theorem tt_ok : TTok Tryd.prog tt := by
  intro t
  unfold tt
  split
  · exact .inr (ti_ok (d := .int .i64) (by kernel_rfl) (by simp [TK.fits]) (by kernel_rfl))
  · exact .inr (ti_ok (d := .bool) (by kernel_rfl) (by simp [TK.fits]) (by kernel_rfl))
  · exact .inr (ti_ok (d := .int .u8) (by kernel_rfl) (by simp [TK.fits]) (by kernel_rfl))
  · exact .inr (ti_ok (d := .string) (by kernel_rfl) (by simp [TK.fits]) (by kernel_rfl))
  · exact .inr (ti_ok (d := .slice 33) (by kernel_rfl) (by simp [TK.fits]) (by kernel_rfl))
  · exact .inr (ti_ok (d := .int .i64) (by kernel_rfl) (by simp [TK.fits]) (by kernel_rfl))
  · exact .inr (ti_ok_st (by kernel_rfl) (by kernel_rfl))
  · exact .inr (ti_ok (d := .map 9 3) (by kernel_rfl) (by simp [TK.fits]) (by kernel_rfl))
  · exact .inr (ti_ok (d := .slice 22) (by kernel_rfl) (by simp [TK.fits]) (by kernel_rfl))
  · exact .inl rfl
theorem mix_ok : Tryd.prog.follows .mixedOrders = true := by kernel_rfl

/-! ### wainwright/rolls.odd: function 37 -/
noncomputable def rolls_odd : (List UInt8 × Int) → Option (Bool) := fun x0 =>
  if (!((x0.1 == []) && (x0.2 == 0))) = true then
    if decide (x0.2 < 1) = false then
      if decide (x0.2 > 65535) = false then
        (paths_Right x0.1).bind fun r18 =>
          some (!r18)
      else
        some true
    else
      some true
  else
    some false

def rolls_odd.ins : Spec := ⟨22, 0, [], [0], (.cons (.v (.st (.pair .str I))) .nil)⟩
def rolls_odd.outs : List Spec := [⟨22, 0, [], [2], (.cons (.v .bool) .nil)⟩]
noncomputable def rolls_odd.c : Callee' := ⟨37, mkFits rolls_odd.ins rolls_odd.outs, mkFun rolls_odd.ins rolls_odd.outs rolls_odd⟩
theorem rolls_odd.quiet : FunQuiet rolls_odd.c.F := mkFun_quiet rfl rfl
noncomputable def rolls_odd.ann : Ann :=
  (.seq (.reg []) (.seq (.reg [.std, .std, .eqs 33, .std, .std, .std, .std, .std, .std, .std, .std, .std, .std, .std, .std, .callq [paths_Right.c]]) .std))
noncomputable def rolls_odd.code : Code := match Tryd.f37.body with | some c => c | none => .skip
theorem rolls_odd.eq : absFn tt 22 rolls_odd.ins rolls_odd.outs rolls_odd.code rolls_odd.ann = rolls_odd := by
  funext a
  kernel_rfl
theorem rolls_odd.ok : rolls_odd.ann.ok Tryd.prog 0 22 :=
  ann_ok (by kernel_rfl) (by kernel_rfl) (show ∀ c ∈ ([paths_Right.c] : List Callee'), c.ok Tryd.prog from cs_cons paths_Right.sound cs_nil)
    (show ∀ c ∈ ([paths_Right.c] : List Callee'), FunQuiet c.F from cs_cons paths_Right.quiet cs_nil)
theorem rolls_odd.sound : rolls_odd.c.ok Tryd.prog := by
  refine ⟨?_, Tryd.f37, rolls_odd.code, Tryd.func37, rfl, by decide⟩
  have h := fn_sound tt_ok mix_ok (x := rolls_odd.ann) (ins := rolls_odd.ins) (outs := rolls_odd.outs) (N := 22) Tryd.func37 (c := rolls_odd.code) rfl rfl (by kernel_rfl) (by kernel_rfl) rolls_odd.ok (by decide)
  rw [rolls_odd.eq] at h
  exact h

/-! ### slices.IndexFunc[[]wainwright/api.Entry,wainwright/api.Entry]: function 31 -/
noncomputable def api_Entry.l1 : ((List (List UInt8 × Int)) × Int × Int) → Option (((List (List UInt8 × Int)) × Int × Int) ⊕ (Unit ⊕ Int)) := fun (s0, t7, t8) =>
  if decide (t8 < t7) = true then
    if 0 ≤ t8 ∧ t8 < (s0.length : Int) then
      (rolls_odd ((s0.getD t8.toNat ([], 0)).1, (s0.getD t8.toNat ([], 0)).2)).bind fun r16 =>
        if r16 = true then
          some (.inr (.inr t8))
        else
          some (.inl ((s0, t7, IntKind.i64.wrap (t8 + 1))))
    else none
  else
    some (.inr (.inl ()))

noncomputable def api_Entry : (List (List UInt8 × Int)) → Option (Int) := fun s0 =>
  (loopO api_Entry.l1 ((s0, (s0.length : Int), 0))).bind fun d => match d with
  | .inl _ =>
    some (-1)
  | .inr t4 =>
    some t4

def api_Entry.ins : Spec := ⟨19, 0, [], [0, 1], (.cons (.v (.sl (.st (.pair .str I)))) (.cons (.fn (.func 37) .nil .nil) .nil))⟩
def api_Entry.outs : List Spec := [⟨19, 0, [], [4], (.cons (.v I) .nil)⟩]
noncomputable def api_Entry.c : Callee' := ⟨31, mkFits api_Entry.ins api_Entry.outs, mkFun api_Entry.ins api_Entry.outs api_Entry⟩
theorem api_Entry.quiet : FunQuiet api_Entry.c.F := mkFun_quiet rfl rfl
noncomputable def api_Entry.ann : Ann :=
  (.seq (.reg []) (.seq (.seq (.reg []) (.block (.loop ⟨19, 0, [], [0, 1, 7, 8], (.cons (.v (.sl (.st (.pair .str I)))) (.cons (.fn (.func 37) .nil .nil) (.cons (.v I) (.cons (.v I) .nil))))⟩ [(.exit 0, ⟨19, 0, [], [], .nil⟩), (.ret, ⟨19, 0, [], [4], (.cons (.v I) .nil)⟩)]
  (.seq (.reg []) (.seq (.cond .std .std) (.seq (.block (.seq (.reg []) (.seq (.reg [.std, .std, .std, .std, .std, .callq [rolls_odd.c]]) (.cond (.seq (.reg []) .std) .std)))) (.reg []))))))) (.seq (.reg []) .std)))
noncomputable def api_Entry.code : Code := match Tryd.f31.body with | some c => c | none => .skip
theorem api_Entry.eq : absFn tt 19 api_Entry.ins api_Entry.outs api_Entry.code api_Entry.ann = api_Entry := by
  funext a
  kernel_rfl
theorem api_Entry.ok : api_Entry.ann.ok Tryd.prog 0 19 :=
  ann_ok (by kernel_rfl) (by kernel_rfl) (show ∀ c ∈ ([rolls_odd.c] : List Callee'), c.ok Tryd.prog from cs_cons rolls_odd.sound cs_nil)
    (show ∀ c ∈ ([rolls_odd.c] : List Callee'), FunQuiet c.F from cs_cons rolls_odd.quiet cs_nil)
theorem api_Entry.sound : api_Entry.c.ok Tryd.prog := by
  refine ⟨?_, Tryd.f31, api_Entry.code, Tryd.func31, rfl, by decide⟩
  have h := fn_sound tt_ok mix_ok (x := api_Entry.ann) (ins := api_Entry.ins) (outs := api_Entry.outs) (N := 19) Tryd.func31 (c := api_Entry.code) rfl rfl (by kernel_rfl) (by kernel_rfl) api_Entry.ok (by decide)
  rw [api_Entry.eq] at h
  exact h

/-! ### slices.ContainsFunc[[]wainwright/api.Entry,wainwright/api.Entry]: function 36 -/
noncomputable def api_Entry_1 : (List (List UInt8 × Int)) → Option (Bool) := fun s0 =>
  (api_Entry s0).bind fun r7 =>
    some ((decide (r7 ≥ 0)))

def api_Entry_1.ins : Spec := ⟨9, 0, [], [0, 1], (.cons (.v (.sl (.st (.pair .str I)))) (.cons (.fn (.func 37) .nil .nil) .nil))⟩
def api_Entry_1.outs : List Spec := [⟨9, 0, [], [4], (.cons (.v .bool) .nil)⟩]
noncomputable def api_Entry_1.c : Callee' := ⟨36, mkFits api_Entry_1.ins api_Entry_1.outs, mkFun api_Entry_1.ins api_Entry_1.outs api_Entry_1⟩
theorem api_Entry_1.quiet : FunQuiet api_Entry_1.c.F := mkFun_quiet rfl rfl
noncomputable def api_Entry_1.ann : Ann :=
  (.seq (.reg []) (.seq (.reg [.std, .std, .callq [api_Entry.c]]) .std))
noncomputable def api_Entry_1.code : Code := match Tryd.f36.body with | some c => c | none => .skip
theorem api_Entry_1.eq : absFn tt 9 api_Entry_1.ins api_Entry_1.outs api_Entry_1.code api_Entry_1.ann = api_Entry_1 := by
  funext a
  kernel_rfl
theorem api_Entry_1.ok : api_Entry_1.ann.ok Tryd.prog 0 9 :=
  ann_ok (by kernel_rfl) (by kernel_rfl) (show ∀ c ∈ ([api_Entry.c] : List Callee'), c.ok Tryd.prog from cs_cons api_Entry.sound cs_nil)
    (show ∀ c ∈ ([api_Entry.c] : List Callee'), FunQuiet c.F from cs_cons api_Entry.quiet cs_nil)
theorem api_Entry_1.sound : api_Entry_1.c.ok Tryd.prog := by
  refine ⟨?_, Tryd.f36, api_Entry_1.code, Tryd.func36, rfl, by decide⟩
  have h := fn_sound tt_ok mix_ok (x := api_Entry_1.ann) (ins := api_Entry_1.ins) (outs := api_Entry_1.outs) (N := 9) Tryd.func36 (c := api_Entry_1.code) rfl rfl (by kernel_rfl) (by kernel_rfl) api_Entry_1.ok (by decide)
  rw [api_Entry_1.eq] at h
  exact h

/-! ### slices.Clone[[]wainwright/api.Entry,wainwright/api.Entry]: function 33 -/
noncomputable def api_Entry_2 : (List (List UInt8 × Int)) → Option (List (List UInt8 × Int)) := fun s0 =>
  if s0.isEmpty = true then
    agree (
      some ((([] : List (List UInt8 × Int))))) (
      if roomOk ((([] : List (List UInt8 × Int))).length + s0.length) 24 then
        some (((([] : List (List UInt8 × Int))) ++ s0))
      else none)
  else
    if roomOk ((([] : List (List UInt8 × Int))).length + s0.length) 24 then
      some (((([] : List (List UInt8 × Int))) ++ s0))
    else none

def api_Entry_2.ins : Spec := ⟨8, 0, [], [0], (.cons (.v (.sl (.st (.pair .str I)))) .nil)⟩
def api_Entry_2.outs : List Spec := [⟨8, 0, [], [2], (.cons (.v (.sl (.st (.pair .str I)))) .nil)⟩]
noncomputable def api_Entry_2.c : Callee' := ⟨33, mkFits api_Entry_2.ins api_Entry_2.outs, mkFun api_Entry_2.ins api_Entry_2.outs api_Entry_2⟩
theorem api_Entry_2.quiet : FunQuiet api_Entry_2.c.F := mkFun_quiet rfl rfl
noncomputable def api_Entry_2.ann : Ann :=
  (.seq (.reg []) (.seq (.seq (.reg [.std, .obj .bool]) (.cond (.seq (.reg []) .std) .std)) (.seq (.reg [.obj (.st (.pair .str I)), .std, .obj (.st (.pair .str I))]) .std)))
noncomputable def api_Entry_2.code : Code := match Tryd.f33.body with | some c => c | none => .skip
theorem api_Entry_2.eq : absFn tt 8 api_Entry_2.ins api_Entry_2.outs api_Entry_2.code api_Entry_2.ann = api_Entry_2 := by
  funext a
  kernel_rfl
theorem api_Entry_2.ok : api_Entry_2.ann.ok Tryd.prog 0 8 :=
  ann_ok (by kernel_rfl) (by kernel_rfl) (show ∀ c ∈ ([] : List Callee'), c.ok Tryd.prog from cs_nil)
    (show ∀ c ∈ ([] : List Callee'), FunQuiet c.F from cs_nil)
theorem api_Entry_2.sound : api_Entry_2.c.ok Tryd.prog := by
  refine ⟨?_, Tryd.f33, api_Entry_2.code, Tryd.func33, rfl, by decide⟩
  have h := fn_sound tt_ok mix_ok (x := api_Entry_2.ann) (ins := api_Entry_2.ins) (outs := api_Entry_2.outs) (N := 8) Tryd.func33 (c := api_Entry_2.code) rfl rfl (by kernel_rfl) (by kernel_rfl) api_Entry_2.ok (by decide)
  rw [api_Entry_2.eq] at h
  exact h

/-! ### wainwright/rolls.left: function 32 -/
noncomputable def rolls_left : (List UInt8 × Int) → Option (Bool) := fun x0 =>
  some (((x0.2 == 0)))

def rolls_left.ins : Spec := ⟨6, 0, [], [0], (.cons (.v (.st (.pair .str I))) .nil)⟩
def rolls_left.outs : List Spec := [⟨6, 0, [], [2], (.cons (.v .bool) .nil)⟩]
noncomputable def rolls_left.c : Callee' := ⟨32, mkFits rolls_left.ins rolls_left.outs, mkFun rolls_left.ins rolls_left.outs rolls_left⟩
theorem rolls_left.quiet : FunQuiet rolls_left.c.F := mkFun_quiet rfl rfl
noncomputable def rolls_left.ann : Ann :=
  (.seq (.reg []) (.seq (.reg []) .std))
noncomputable def rolls_left.code : Code := match Tryd.f32.body with | some c => c | none => .skip
theorem rolls_left.eq : absFn tt 6 rolls_left.ins rolls_left.outs rolls_left.code rolls_left.ann = rolls_left := by
  funext a
  kernel_rfl
theorem rolls_left.ok : rolls_left.ann.ok Tryd.prog 0 6 :=
  ann_ok (by kernel_rfl) (by kernel_rfl) (show ∀ c ∈ ([] : List Callee'), c.ok Tryd.prog from cs_nil)
    (show ∀ c ∈ ([] : List Callee'), FunQuiet c.F from cs_nil)
theorem rolls_left.sound : rolls_left.c.ok Tryd.prog := by
  refine ⟨?_, Tryd.f32, rolls_left.code, Tryd.func32, rfl, by decide⟩
  have h := fn_sound tt_ok mix_ok (x := rolls_left.ann) (ins := rolls_left.ins) (outs := rolls_left.outs) (N := 6) Tryd.func32 (c := rolls_left.code) rfl rfl (by kernel_rfl) (by kernel_rfl) rolls_left.ok (by decide)
  rw [rolls_left.eq] at h
  exact h

/-! ### slices.IndexFunc[[]wainwright/api.Entry,wainwright/api.Entry]: function 31 -/
noncomputable def api_Entry_3.l1 : ((List (List UInt8 × Int)) × Int × Int) → Option (((List (List UInt8 × Int)) × Int × Int) ⊕ (Unit ⊕ Int)) := fun (s0, t7, t8) =>
  if decide (t8 < t7) = true then
    if 0 ≤ t8 ∧ t8 < (s0.length : Int) then
      (rolls_left ((s0.getD t8.toNat ([], 0)).1, (s0.getD t8.toNat ([], 0)).2)).bind fun r16 =>
        if r16 = true then
          some (.inr (.inr t8))
        else
          some (.inl ((s0, t7, IntKind.i64.wrap (t8 + 1))))
    else none
  else
    some (.inr (.inl ()))

noncomputable def api_Entry_3 : (List (List UInt8 × Int)) → Option (Int) := fun s0 =>
  (loopO api_Entry_3.l1 ((s0, (s0.length : Int), 0))).bind fun d => match d with
  | .inl _ =>
    some (-1)
  | .inr t4 =>
    some t4

def api_Entry_3.ins : Spec := ⟨19, 0, [], [0, 1], (.cons (.v (.sl (.st (.pair .str I)))) (.cons (.fn (.func 32) .nil .nil) .nil))⟩
def api_Entry_3.outs : List Spec := [⟨19, 0, [], [4], (.cons (.v I) .nil)⟩]
noncomputable def api_Entry_3.c : Callee' := ⟨31, mkFits api_Entry_3.ins api_Entry_3.outs, mkFun api_Entry_3.ins api_Entry_3.outs api_Entry_3⟩
theorem api_Entry_3.quiet : FunQuiet api_Entry_3.c.F := mkFun_quiet rfl rfl
noncomputable def api_Entry_3.ann : Ann :=
  (.seq (.reg []) (.seq (.seq (.reg []) (.block (.loop ⟨19, 0, [], [0, 1, 7, 8], (.cons (.v (.sl (.st (.pair .str I)))) (.cons (.fn (.func 32) .nil .nil) (.cons (.v I) (.cons (.v I) .nil))))⟩ [(.exit 0, ⟨19, 0, [], [], .nil⟩), (.ret, ⟨19, 0, [], [4], (.cons (.v I) .nil)⟩)]
  (.seq (.reg []) (.seq (.cond .std .std) (.seq (.block (.seq (.reg []) (.seq (.reg [.std, .std, .std, .std, .std, .callq [rolls_left.c]]) (.cond (.seq (.reg []) .std) .std)))) (.reg []))))))) (.seq (.reg []) .std)))
noncomputable def api_Entry_3.code : Code := match Tryd.f31.body with | some c => c | none => .skip
theorem api_Entry_3.eq : absFn tt 19 api_Entry_3.ins api_Entry_3.outs api_Entry_3.code api_Entry_3.ann = api_Entry_3 := by
  funext a
  kernel_rfl
theorem api_Entry_3.ok : api_Entry_3.ann.ok Tryd.prog 0 19 :=
  ann_ok (by kernel_rfl) (by kernel_rfl) (show ∀ c ∈ ([rolls_left.c] : List Callee'), c.ok Tryd.prog from cs_cons rolls_left.sound cs_nil)
    (show ∀ c ∈ ([rolls_left.c] : List Callee'), FunQuiet c.F from cs_cons rolls_left.quiet cs_nil)
theorem api_Entry_3.sound : api_Entry_3.c.ok Tryd.prog := by
  refine ⟨?_, Tryd.f31, api_Entry_3.code, Tryd.func31, rfl, by decide⟩
  have h := fn_sound tt_ok mix_ok (x := api_Entry_3.ann) (ins := api_Entry_3.ins) (outs := api_Entry_3.outs) (N := 19) Tryd.func31 (c := api_Entry_3.code) rfl rfl (by kernel_rfl) (by kernel_rfl) api_Entry_3.ok (by decide)
  rw [api_Entry_3.eq] at h
  exact h

/-! ### slices.Clone[[]wainwright/api.Entry,wainwright/api.Entry]: function 33 -/
noncomputable def api_Entry_4 : (List (List UInt8 × Int)) → Option (List (List UInt8 × Int)) := fun s0 =>
  if s0.isEmpty = true then
    agree (
      some []) (
      if roomOk ((([] : List (List UInt8 × Int))).length + s0.length) 24 then
        some (((([] : List (List UInt8 × Int))) ++ s0))
      else none)
  else
    if roomOk ((([] : List (List UInt8 × Int))).length + s0.length) 24 then
      some (((([] : List (List UInt8 × Int))) ++ s0))
    else none

def api_Entry_4.ins : Spec := ⟨8, 0, [], [0], (.cons (.v (.sl (.st (.pair .str I)))) .nil)⟩
def api_Entry_4.outs : List Spec := [⟨8, 0, [.arr (.st (.pair .str I))], [2], (.cons (.ref 0) .nil)⟩]
noncomputable def api_Entry_4.c : Callee' := ⟨33, mkFits api_Entry_4.ins api_Entry_4.outs, mkFun api_Entry_4.ins api_Entry_4.outs api_Entry_4⟩
noncomputable def api_Entry_4.ann : Ann :=
  (.seq (.reg []) (.seq (.seq (.reg [.std, .obj .bool]) (.cond (.seq (.reg []) .std) .std)) (.seq (.reg [.obj (.st (.pair .str I)), .std, .obj (.st (.pair .str I))]) .std)))
noncomputable def api_Entry_4.code : Code := match Tryd.f33.body with | some c => c | none => .skip
theorem api_Entry_4.eq : absFn tt 8 api_Entry_4.ins api_Entry_4.outs api_Entry_4.code api_Entry_4.ann = api_Entry_4 := by
  funext a
  kernel_rfl
theorem api_Entry_4.ok : api_Entry_4.ann.ok Tryd.prog 0 8 :=
  ann_ok (by kernel_rfl) (by kernel_rfl) (show ∀ c ∈ ([] : List Callee'), c.ok Tryd.prog from cs_nil)
    (show ∀ c ∈ ([] : List Callee'), FunQuiet c.F from cs_nil)
theorem api_Entry_4.sound : api_Entry_4.c.ok Tryd.prog := by
  refine ⟨?_, Tryd.f33, api_Entry_4.code, Tryd.func33, rfl, by decide⟩
  have h := fn_sound tt_ok mix_ok (x := api_Entry_4.ann) (ins := api_Entry_4.ins) (outs := api_Entry_4.outs) (N := 8) Tryd.func33 (c := api_Entry_4.code) rfl rfl (by kernel_rfl) (by kernel_rfl) api_Entry_4.ok (by decide)
  rw [api_Entry_4.eq] at h
  exact h

/-! ### slices.DeleteFunc[[]wainwright/api.Entry,wainwright/api.Entry]: function 38 -/
noncomputable def api_Entry_5.l1 : ((List (List UInt8 × Int)) × Int × Int) → Option (((List (List UInt8 × Int)) × Int × Int) ⊕ ((List (List UInt8 × Int)) × Int)) := fun (s0, i5, j6) =>
  if decide (j6 < (s0.length : Int)) = true then
    if 0 ≤ j6 ∧ j6 < (s0.length : Int) then
      (rolls_left ((s0.getD j6.toNat ([], 0)).1, (s0.getD j6.toNat ([], 0)).2)).bind fun r28 =>
        if (!r28) = true then
          if 0 ≤ i5 ∧ i5 < (s0.length : Int) then
            some (.inl ((s0.set i5.toNat (((s0.getD j6.toNat ([], 0)).1, (s0.getD j6.toNat ([], 0)).2)), IntKind.i64.wrap (i5 + 1), IntKind.i64.wrap (j6 + 1))))
          else none
        else
          some (.inl ((s0, i5, IntKind.i64.wrap (j6 + 1))))
    else none
  else
    some (.inr (((s0, i5))))

noncomputable def api_Entry_5 : (List (List UInt8 × Int)) → Option (List (List UInt8 × Int)) := fun s0 =>
  (api_Entry_3 s0).bind fun r10 =>
    if (r10 == (-1)) = true then
      some s0
    else
      (loopO api_Entry_5.l1 ((s0, r10, IntKind.i64.wrap (r10 + 1)))).bind fun (s0, i5) =>
        if 0 ≤ i5 ∧ i5 ≤ (s0.length : Int) then
          if 0 ≤ i5 ∧ i5 ≤ ((s0.take i5.toNat ++ List.replicate (((s0.length : Int) - i5).toNat) (([], 0) : List UInt8 × Int) ++ s0.drop (i5.toNat + ((s0.length : Int) - i5).toNat)).length : Int) then
            some ((((s0.take i5.toNat ++ List.replicate (((s0.length : Int) - i5).toNat) (([], 0) : List UInt8 × Int) ++ s0.drop (i5.toNat + ((s0.length : Int) - i5).toNat)).drop 0).take ((i5 - 0).toNat)))
          else none
        else none

def api_Entry_5.ins : Spec := ⟨42, 0, [.arr (.st (.pair .str I))], [0, 1], (.cons (.ref 0) (.cons (.fn (.func 32) .nil .nil) .nil))⟩
def api_Entry_5.outs : List Spec := [⟨42, 1, [.dead], [4], (.cons (.v (.sl (.st (.pair .str I)))) .nil)⟩]
noncomputable def api_Entry_5.c : Callee' := ⟨38, mkFits api_Entry_5.ins api_Entry_5.outs, mkFun api_Entry_5.ins api_Entry_5.outs api_Entry_5⟩
noncomputable def api_Entry_5.ann : Ann :=
  (.seq (.reg []) (.seq (.reg [.std, .std, .callq [api_Entry_3.c]]) (.seq (.seq (.reg []) (.cond (.seq (.reg []) .std) .std)) (.seq (.seq (.reg []) (.block (.loop ⟨42, 1, [.arr (.st (.pair .str I))], [0, 1, 5, 6], (.cons (.ref 0) (.cons (.fn (.func 32) .nil .nil) (.cons (.v I) (.cons (.v I) .nil))))⟩ [(.exit 0, ⟨42, 1, [.arr (.st (.pair .str I))], [0, 5], (.cons (.ref 0) (.cons (.v I) .nil))⟩)]
  (.seq (.seq (.reg []) (.cond .std .std)) (.seq (.block (.seq (.reg []) (.seq (.reg [.std, .std, .callq [rolls_left.c]]) (.cond (.seq (.reg []) (.reg [])) .std)))) (.reg [])))))) (.seq (.reg []) (.seq (.reg []) .std))))))
noncomputable def api_Entry_5.code : Code := match Tryd.f38.body with | some c => c | none => .skip
theorem api_Entry_5.eq : absFn tt 42 api_Entry_5.ins api_Entry_5.outs api_Entry_5.code api_Entry_5.ann = api_Entry_5 := by
  funext a
  kernel_rfl
theorem api_Entry_5.ok : api_Entry_5.ann.ok Tryd.prog 1 42 :=
  ann_ok (by kernel_rfl) (by kernel_rfl) (show ∀ c ∈ ([api_Entry_3.c, rolls_left.c] : List Callee'), c.ok Tryd.prog from cs_cons api_Entry_3.sound (cs_cons rolls_left.sound cs_nil))
    (show ∀ c ∈ ([api_Entry_3.c, rolls_left.c] : List Callee'), FunQuiet c.F from cs_cons api_Entry_3.quiet (cs_cons rolls_left.quiet cs_nil))
theorem api_Entry_5.sound : api_Entry_5.c.ok Tryd.prog := by
  refine ⟨?_, Tryd.f38, api_Entry_5.code, Tryd.func38, rfl, by decide⟩
  have h := fn_sound tt_ok mix_ok (x := api_Entry_5.ann) (ins := api_Entry_5.ins) (outs := api_Entry_5.outs) (N := 42) Tryd.func38 (c := api_Entry_5.code) rfl rfl (by kernel_rfl) (by kernel_rfl) api_Entry_5.ok (by decide)
  rw [api_Entry_5.eq] at h
  exact h

/-! ### wainwright/rolls.Live: function 19 -/
noncomputable def rolls_Live : (List (List UInt8 × Int)) → Option (List (List UInt8 × Int)) := fun l0 =>
  (api_Entry_4 l0).bind fun r4 =>
    (api_Entry_5 r4).bind fun r5 =>
      some r5

def rolls_Live.ins : Spec := ⟨6, 0, [], [0], (.cons (.v (.sl (.st (.pair .str I)))) .nil)⟩
def rolls_Live.outs : List Spec := [⟨6, 0, [], [2], (.cons (.v (.sl (.st (.pair .str I)))) .nil)⟩]
noncomputable def rolls_Live.c : Callee' := ⟨19, mkFits rolls_Live.ins rolls_Live.outs, mkFun rolls_Live.ins rolls_Live.outs rolls_Live⟩
theorem rolls_Live.quiet : FunQuiet rolls_Live.c.F := mkFun_quiet rfl rfl
noncomputable def rolls_Live.ann : Ann :=
  (.seq (.reg []) (.seq (.reg [.std, .call [api_Entry_4.c], .call [api_Entry_5.c]]) .std))
noncomputable def rolls_Live.code : Code := match Tryd.f19.body with | some c => c | none => .skip
theorem rolls_Live.eq : absFn tt 6 rolls_Live.ins rolls_Live.outs rolls_Live.code rolls_Live.ann = rolls_Live := by
  funext a
  kernel_rfl
theorem rolls_Live.ok : rolls_Live.ann.ok Tryd.prog 0 6 :=
  ann_ok (by kernel_rfl) (by kernel_rfl) (show ∀ c ∈ ([api_Entry_4.c, api_Entry_5.c] : List Callee'), c.ok Tryd.prog from cs_cons api_Entry_4.sound (cs_cons api_Entry_5.sound cs_nil))
    (show ∀ c ∈ ([] : List Callee'), FunQuiet c.F from cs_nil)
theorem rolls_Live.sound : rolls_Live.c.ok Tryd.prog := by
  refine ⟨?_, Tryd.f19, rolls_Live.code, Tryd.func19, rfl, by decide⟩
  have h := fn_sound tt_ok mix_ok (x := rolls_Live.ann) (ins := rolls_Live.ins) (outs := rolls_Live.outs) (N := 6) Tryd.func19 (c := rolls_Live.code) rfl rfl (by kernel_rfl) (by kernel_rfl) rolls_Live.ok (by decide)
  rw [rolls_Live.eq] at h
  exact h

/-! ### wainwright/rolls.Right: function 17 -/
noncomputable def rolls_Right.l1 : ((List (List UInt8 × Int)) × (List (List UInt8 × Int)) × (List (List UInt8 × Int)) × Int × Int) → Option (((List (List UInt8 × Int)) × (List (List UInt8 × Int)) × (List (List UInt8 × Int)) × Int × Int) ⊕ ((List (List UInt8 × Int)) × List (List UInt8 × Int))) := fun (seen3, l0, t16, t17, t18) =>
  if decide (t18 < t17) = true then
    if 0 ≤ t18 ∧ t18 < (t16.length : Int) then
      some (.inl ((mput (K := .str) (V := I) seen3 ((t16.getD t18.toNat ([], 0)).1) (IntKind.i64.wrap (((mget (K := .str) (V := I) seen3 ((t16.getD t18.toNat ([], 0)).1)).getD 0) + 1)), l0, t16, t17, IntKind.i64.wrap (t18 + 1))))
    else none
  else
    some (.inr (((seen3, l0))))

noncomputable def rolls_Right : (List (List UInt8 × Int)) → Option (Bool) := fun l0 =>
  if (Int.tmod (l0.length : Int) 8 != 0) = false then
    (api_Entry_1 l0).bind fun r12 =>
      if r12 = true then
        some false
      else
        (rolls_Live l0).bind fun r16 =>
          (loopO rolls_Right.l1 ((([] : List (List UInt8 × Int)), l0, r16, (r16.length : Int), 0))).bind fun (seen3, l0) =>
            (rolls_Live l0).bind fun r31 =>
              if ((seen3.length : Int) == (r31.length : Int)) = true then
                some ((decide ((seen3.length : Int) ≤ 160)))
              else
                some false
  else
    some false

def rolls_Right.ins : Spec := ⟨39, 0, [], [0], (.cons (.v (.sl (.st (.pair .str I)))) .nil)⟩
def rolls_Right.outs : List Spec := [⟨39, 0, [], [2], (.cons (.v .bool) .nil)⟩]
noncomputable def rolls_Right.c : Callee' := ⟨17, mkFits rolls_Right.ins rolls_Right.outs, mkFun rolls_Right.ins rolls_Right.outs rolls_Right⟩
theorem rolls_Right.quiet : FunQuiet rolls_Right.c.F := mkFun_quiet rfl rfl
noncomputable def rolls_Right.ann : Ann :=
  (.seq (.reg []) (.seq (.seq (.reg [.std, .std, .std, .std, .std, .std, .callq [api_Entry_1.c]]) (.cond (.seq (.reg []) .std) .std)) (.seq (.reg [.mp .str I]) (.seq (.seq (.reg [.std, .callq [rolls_Live.c]]) (.block (.loop ⟨39, 0, [.map .str I], [0, 3, 16, 17, 18], (.cons (.v (.sl (.st (.pair .str I)))) (.cons (.ref 0) (.cons (.v (.sl (.st (.pair .str I)))) (.cons (.v I) (.cons (.v I) .nil)))))⟩ [(.exit 0, ⟨39, 0, [.map .str I], [0, 3], (.cons (.v (.sl (.st (.pair .str I)))) (.cons (.ref 0) .nil))⟩)]
  (.seq (.reg []) (.seq (.cond .std .std) (.seq (.block (.seq (.reg []) (.reg []))) (.reg []))))))) (.seq (.reg [.std, .std, .std, .callq [rolls_Live.c]]) .std)))))
noncomputable def rolls_Right.code : Code := match Tryd.f17.body with | some c => c | none => .skip
theorem rolls_Right.eq : absFn tt 39 rolls_Right.ins rolls_Right.outs rolls_Right.code rolls_Right.ann = rolls_Right := by
  funext a
  kernel_rfl
theorem rolls_Right.ok : rolls_Right.ann.ok Tryd.prog 0 39 :=
  ann_ok (by kernel_rfl) (by kernel_rfl) (show ∀ c ∈ ([api_Entry_1.c, rolls_Live.c, rolls_Live.c] : List Callee'), c.ok Tryd.prog from cs_cons api_Entry_1.sound (cs_cons rolls_Live.sound (cs_cons rolls_Live.sound cs_nil)))
    (show ∀ c ∈ ([api_Entry_1.c, rolls_Live.c, rolls_Live.c] : List Callee'), FunQuiet c.F from cs_cons api_Entry_1.quiet (cs_cons rolls_Live.quiet (cs_cons rolls_Live.quiet cs_nil)))
theorem rolls_Right.sound : rolls_Right.c.ok Tryd.prog := by
  refine ⟨?_, Tryd.f17, rolls_Right.code, Tryd.func17, rfl, by decide⟩
  have h := fn_sound tt_ok mix_ok (x := rolls_Right.ann) (ins := rolls_Right.ins) (outs := rolls_Right.outs) (N := 39) Tryd.func17 (c := rolls_Right.code) rfl rfl (by kernel_rfl) (by kernel_rfl) rolls_Right.ok (by decide)
  rw [rolls_Right.eq] at h
  exact h

/-! ### wainwright/rolls.at$1: function 53 -/
noncomputable def rolls_at_1 : ((List UInt8 × Int) × List UInt8) → Option (Bool) := fun (x0, t1) =>
  some (((x0.1 == t1)))

def rolls_at_1.ins : Spec := ⟨8, 0, [], [0, 1], (.cons (.v (.st (.pair .str I))) (.cons (.v (.ptr .str)) .nil))⟩
def rolls_at_1.outs : List Spec := [⟨8, 0, [], [3], (.cons (.v .bool) .nil)⟩]
noncomputable def rolls_at_1.c : Callee' := ⟨53, mkFits rolls_at_1.ins rolls_at_1.outs, mkFun rolls_at_1.ins rolls_at_1.outs rolls_at_1⟩
theorem rolls_at_1.quiet : FunQuiet rolls_at_1.c.F := mkFun_quiet rfl rfl
noncomputable def rolls_at_1.ann : Ann :=
  (.seq (.reg []) (.seq (.reg []) .std))
noncomputable def rolls_at_1.code : Code := match Tryd.f53.body with | some c => c | none => .skip
theorem rolls_at_1.eq : absFn tt 8 rolls_at_1.ins rolls_at_1.outs rolls_at_1.code rolls_at_1.ann = rolls_at_1 := by
  funext a
  kernel_rfl
theorem rolls_at_1.ok : rolls_at_1.ann.ok Tryd.prog 0 8 :=
  ann_ok (by kernel_rfl) (by kernel_rfl) (show ∀ c ∈ ([] : List Callee'), c.ok Tryd.prog from cs_nil)
    (show ∀ c ∈ ([] : List Callee'), FunQuiet c.F from cs_nil)
theorem rolls_at_1.sound : rolls_at_1.c.ok Tryd.prog := by
  refine ⟨?_, Tryd.f53, rolls_at_1.code, Tryd.func53, rfl, by decide⟩
  have h := fn_sound tt_ok mix_ok (x := rolls_at_1.ann) (ins := rolls_at_1.ins) (outs := rolls_at_1.outs) (N := 8) Tryd.func53 (c := rolls_at_1.code) rfl rfl (by kernel_rfl) (by kernel_rfl) rolls_at_1.ok (by decide)
  rw [rolls_at_1.eq] at h
  exact h

/-! ### slices.IndexFunc[[]wainwright/api.Entry,wainwright/api.Entry]: function 31 -/
noncomputable def api_Entry_6.l1 : ((List (List UInt8 × Int)) × List UInt8 × Int × Int) → Option (((List (List UInt8 × Int)) × List UInt8 × Int × Int) ⊕ (Unit ⊕ Int)) := fun (s0, f1c0, t7, t8) =>
  if decide (t8 < t7) = true then
    if 0 ≤ t8 ∧ t8 < (s0.length : Int) then
      (rolls_at_1 (((s0.getD t8.toNat ([], 0)).1, (s0.getD t8.toNat ([], 0)).2), f1c0)).bind fun r16 =>
        if r16 = true then
          some (.inr (.inr t8))
        else
          some (.inl ((s0, f1c0, t7, IntKind.i64.wrap (t8 + 1))))
    else none
  else
    some (.inr (.inl ()))

noncomputable def api_Entry_6 : ((List (List UInt8 × Int)) × List UInt8) → Option (Int) := fun (s0, f1c0) =>
  (loopO api_Entry_6.l1 ((s0, f1c0, (s0.length : Int), 0))).bind fun d => match d with
  | .inl _ =>
    some (-1)
  | .inr t4 =>
    some t4

def api_Entry_6.ins : Spec := ⟨19, 0, [], [0, 1], (.cons (.v (.sl (.st (.pair .str I)))) (.cons (.fn (.func 53) .nil (.cons (.v (.ptr .str)) .nil)) .nil))⟩
def api_Entry_6.outs : List Spec := [⟨19, 0, [], [4], (.cons (.v I) .nil)⟩]
noncomputable def api_Entry_6.c : Callee' := ⟨31, mkFits api_Entry_6.ins api_Entry_6.outs, mkFun api_Entry_6.ins api_Entry_6.outs api_Entry_6⟩
theorem api_Entry_6.quiet : FunQuiet api_Entry_6.c.F := mkFun_quiet rfl rfl
noncomputable def api_Entry_6.ann : Ann :=
  (.seq (.reg []) (.seq (.seq (.reg []) (.block (.loop ⟨19, 0, [], [0, 1, 7, 8], (.cons (.v (.sl (.st (.pair .str I)))) (.cons (.fn (.func 53) .nil (.cons (.v (.ptr .str)) .nil)) (.cons (.v I) (.cons (.v I) .nil))))⟩ [(.exit 0, ⟨19, 0, [], [], .nil⟩), (.ret, ⟨19, 0, [], [4], (.cons (.v I) .nil)⟩)]
  (.seq (.reg []) (.seq (.cond .std .std) (.seq (.block (.seq (.reg []) (.seq (.reg [.std, .std, .std, .std, .std, .callq [rolls_at_1.c]]) (.cond (.seq (.reg []) .std) .std)))) (.reg []))))))) (.seq (.reg []) .std)))
noncomputable def api_Entry_6.code : Code := match Tryd.f31.body with | some c => c | none => .skip
theorem api_Entry_6.eq : absFn tt 19 api_Entry_6.ins api_Entry_6.outs api_Entry_6.code api_Entry_6.ann = api_Entry_6 := by
  funext a
  kernel_rfl
theorem api_Entry_6.ok : api_Entry_6.ann.ok Tryd.prog 0 19 :=
  ann_ok (by kernel_rfl) (by kernel_rfl) (show ∀ c ∈ ([rolls_at_1.c] : List Callee'), c.ok Tryd.prog from cs_cons rolls_at_1.sound cs_nil)
    (show ∀ c ∈ ([rolls_at_1.c] : List Callee'), FunQuiet c.F from cs_cons rolls_at_1.quiet cs_nil)
theorem api_Entry_6.sound : api_Entry_6.c.ok Tryd.prog := by
  refine ⟨?_, Tryd.f31, api_Entry_6.code, Tryd.func31, rfl, by decide⟩
  have h := fn_sound tt_ok mix_ok (x := api_Entry_6.ann) (ins := api_Entry_6.ins) (outs := api_Entry_6.outs) (N := 19) Tryd.func31 (c := api_Entry_6.code) rfl rfl (by kernel_rfl) (by kernel_rfl) api_Entry_6.ok (by decide)
  rw [api_Entry_6.eq] at h
  exact h

/-! ### wainwright/rolls.at: function 30 -/
noncomputable def rolls_at : ((List (List UInt8 × Int)) × List UInt8) → Option (Int) := fun (l0, name1) =>
  (paths_Right name1).bind fun r6 =>
    if (!r6) = true then
      some (-1)
    else
      (api_Entry_6 (l0, name1)).bind fun r10 =>
        some r10

def rolls_at.ins : Spec := ⟨11, 0, [], [0, 1], (.cons (.v (.sl (.st (.pair .str I)))) (.cons (.v .str) .nil))⟩
def rolls_at.outs : List Spec := [⟨11, 0, [], [4], (.cons (.v I) .nil)⟩]
noncomputable def rolls_at.c : Callee' := ⟨30, mkFits rolls_at.ins rolls_at.outs, mkFun rolls_at.ins rolls_at.outs rolls_at⟩
theorem rolls_at.quiet : FunQuiet rolls_at.c.F := mkFun_quiet rfl rfl
noncomputable def rolls_at.ann : Ann :=
  (.seq (.reg []) (.seq (.seq (.reg [.std, .callq [paths_Right.c]]) (.cond (.seq (.reg []) .std) .std)) (.seq (.reg [.std, .std, .callq [api_Entry_6.c]]) .std)))
noncomputable def rolls_at.code : Code := match Tryd.f30.body with | some c => c | none => .skip
theorem rolls_at.eq : absFn tt 11 rolls_at.ins rolls_at.outs rolls_at.code rolls_at.ann = rolls_at := by
  funext a
  kernel_rfl
theorem rolls_at.ok : rolls_at.ann.ok Tryd.prog 0 11 :=
  ann_ok (by kernel_rfl) (by kernel_rfl) (show ∀ c ∈ ([paths_Right.c, api_Entry_6.c] : List Callee'), c.ok Tryd.prog from cs_cons paths_Right.sound (cs_cons api_Entry_6.sound cs_nil))
    (show ∀ c ∈ ([paths_Right.c, api_Entry_6.c] : List Callee'), FunQuiet c.F from cs_cons paths_Right.quiet (cs_cons api_Entry_6.quiet cs_nil))
theorem rolls_at.sound : rolls_at.c.ok Tryd.prog := by
  refine ⟨?_, Tryd.f30, rolls_at.code, Tryd.func30, rfl, by decide⟩
  have h := fn_sound tt_ok mix_ok (x := rolls_at.ann) (ins := rolls_at.ins) (outs := rolls_at.outs) (N := 11) Tryd.func30 (c := rolls_at.code) rfl rfl (by kernel_rfl) (by kernel_rfl) rolls_at.ok (by decide)
  rw [rolls_at.eq] at h
  exact h

/-! ### slices.Grow[[]wainwright/api.Entry,wainwright/api.Entry]: function 54 -/
noncomputable def api_Entry_7 : Int → Option (List (List UInt8 × Int)) := fun n1 =>
  if decide (n1 < 0) = true then none else
  if decide (IntKind.i64.wrap (n1 - (IntKind.i64.wrap (0 - 0))) > 0) = true then
    if 0 ≤ (0 : Int) ∧ (0 : Int) ≤ 0 then
      if 0 ≤ IntKind.i64.wrap (n1 - (IntKind.i64.wrap (0 - 0))) ∧ IntKind.i64.wrap (n1 - (IntKind.i64.wrap (0 - 0))) ≤ 9223372036854775807 ∧ roomOk (IntKind.i64.wrap (n1 - (IntKind.i64.wrap (0 - 0)))).toNat 24 then
        if 0 ≤ (0 : Int) ∧ (0 : Int) ≤ ((List.replicate (IntKind.i64.wrap (n1 - (IntKind.i64.wrap (0 - 0)))).toNat (([], 0) : List UInt8 × Int)).length : Int) then
          some ((((List.replicate (IntKind.i64.wrap (n1 - (IntKind.i64.wrap (0 - 0)))).toNat (([], 0) : List UInt8 × Int)).drop 0).take (((0 : Int) - 0).toNat)))
        else none
      else none
    else none
  else
    some ((([] : List (List UInt8 × Int))))

def api_Entry_7.ins : Spec := ⟨27, 0, [], [0, 1], (.cons (.nilsl) (.cons (.v I) .nil))⟩
def api_Entry_7.outs : List Spec := [⟨27, 0, [], [4], (.cons (.v (.sl (.st (.pair .str I)))) .nil)⟩]
noncomputable def api_Entry_7.c : Callee' := ⟨54, mkFits api_Entry_7.ins api_Entry_7.outs, mkFun api_Entry_7.ins api_Entry_7.outs api_Entry_7⟩
theorem api_Entry_7.quiet : FunQuiet api_Entry_7.c.F := mkFun_quiet rfl rfl
noncomputable def api_Entry_7.ann : Ann :=
  (.seq (.reg []) (.seq (.seq (.reg []) (.cond (.reg []) .std)) (.seq (.seq (.reg []) (.seq (.reg []) (.cond (.reg [.std, .std, .std, .std, .std, .inl (.st (.pair .str I))]) .std))) (.seq (.reg []) .std))))
noncomputable def api_Entry_7.code : Code := match Tryd.f54.body with | some c => c | none => .skip
theorem api_Entry_7.eq : absFn tt 27 api_Entry_7.ins api_Entry_7.outs api_Entry_7.code api_Entry_7.ann = api_Entry_7 := by
  funext a
  kernel_rfl
theorem api_Entry_7.ok : api_Entry_7.ann.ok Tryd.prog 0 27 :=
  ann_ok (by kernel_rfl) (by kernel_rfl) (show ∀ c ∈ ([] : List Callee'), c.ok Tryd.prog from cs_nil)
    (show ∀ c ∈ ([] : List Callee'), FunQuiet c.F from cs_nil)
theorem api_Entry_7.sound : api_Entry_7.c.ok Tryd.prog := by
  refine ⟨?_, Tryd.f54, api_Entry_7.code, Tryd.func54, rfl, by decide⟩
  have h := fn_sound tt_ok mix_ok (x := api_Entry_7.ann) (ins := api_Entry_7.ins) (outs := api_Entry_7.outs) (N := 27) Tryd.func54 (c := api_Entry_7.code) rfl rfl (by kernel_rfl) (by kernel_rfl) api_Entry_7.ok (by decide)
  rw [api_Entry_7.eq] at h
  exact h

/-! ### slices.Grow[[]wainwright/api.Entry,wainwright/api.Entry]: function 54 -/
noncomputable def api_Entry_8 : Int → Option (List (List UInt8 × Int)) := fun n1 =>
  if decide (n1 < 0) = true then none else
  if decide (IntKind.i64.wrap (n1 - (IntKind.i64.wrap (0 - 0))) > 0) = true then
    if 0 ≤ (0 : Int) ∧ (0 : Int) ≤ 0 then
      if 0 ≤ IntKind.i64.wrap (n1 - (IntKind.i64.wrap (0 - 0))) ∧ IntKind.i64.wrap (n1 - (IntKind.i64.wrap (0 - 0))) ≤ 9223372036854775807 ∧ roomOk (IntKind.i64.wrap (n1 - (IntKind.i64.wrap (0 - 0)))).toNat 24 then
        if 0 ≤ (0 : Int) ∧ (0 : Int) ≤ ((List.replicate (IntKind.i64.wrap (n1 - (IntKind.i64.wrap (0 - 0)))).toNat (([], 0) : List UInt8 × Int)).length : Int) then
          some ((((List.replicate (IntKind.i64.wrap (n1 - (IntKind.i64.wrap (0 - 0)))).toNat (([], 0) : List UInt8 × Int)).drop 0).take (((0 : Int) - 0).toNat)))
        else none
      else none
    else none
  else
    some []

def api_Entry_8.ins : Spec := ⟨27, 0, [], [0, 1], (.cons (.nilsl) (.cons (.v I) .nil))⟩
def api_Entry_8.outs : List Spec := [⟨27, 0, [.arr (.st (.pair .str I))], [4], (.cons (.ref 0) .nil)⟩]
noncomputable def api_Entry_8.c : Callee' := ⟨54, mkFits api_Entry_8.ins api_Entry_8.outs, mkFun api_Entry_8.ins api_Entry_8.outs api_Entry_8⟩
noncomputable def api_Entry_8.ann : Ann :=
  (.seq (.reg []) (.seq (.seq (.reg []) (.cond (.reg []) .std)) (.seq (.seq (.reg []) (.seq (.reg []) (.cond (.reg [.std, .std, .std, .std, .std, .inl (.st (.pair .str I))]) .std))) (.seq (.reg []) .std))))
noncomputable def api_Entry_8.code : Code := match Tryd.f54.body with | some c => c | none => .skip
theorem api_Entry_8.eq : absFn tt 27 api_Entry_8.ins api_Entry_8.outs api_Entry_8.code api_Entry_8.ann = api_Entry_8 := by
  funext a
  kernel_rfl
theorem api_Entry_8.ok : api_Entry_8.ann.ok Tryd.prog 0 27 :=
  ann_ok (by kernel_rfl) (by kernel_rfl) (show ∀ c ∈ ([] : List Callee'), c.ok Tryd.prog from cs_nil)
    (show ∀ c ∈ ([] : List Callee'), FunQuiet c.F from cs_nil)
theorem api_Entry_8.sound : api_Entry_8.c.ok Tryd.prog := by
  refine ⟨?_, Tryd.f54, api_Entry_8.code, Tryd.func54, rfl, by decide⟩
  have h := fn_sound tt_ok mix_ok (x := api_Entry_8.ann) (ins := api_Entry_8.ins) (outs := api_Entry_8.outs) (N := 27) Tryd.func54 (c := api_Entry_8.code) rfl rfl (by kernel_rfl) (by kernel_rfl) api_Entry_8.ok (by decide)
  rw [api_Entry_8.eq] at h
  exact h

/-! ### slices.Concat[[]wainwright/api.Entry,wainwright/api.Entry]: function 34 -/
noncomputable def api_Entry_9.l1 : ((List (List (List UInt8 × Int))) × Int × (List (List (List UInt8 × Int))) × Int × Int) → Option (((List (List (List UInt8 × Int))) × Int × (List (List (List UInt8 × Int))) × Int × Int) ⊕ ((List (List (List UInt8 × Int))) × Int)) := fun (slices0, size3, t9, t10, t11) =>
  if decide (t11 < t10) = true then
    if 0 ≤ t11 ∧ t11 < (t9.length : Int) then
      if decide (IntKind.i64.wrap (size3 + ((t9.getD t11.toNat []).length : Int)) < 0) = true then none else
      some (.inl ((slices0, IntKind.i64.wrap (size3 + ((t9.getD t11.toNat []).length : Int)), t9, t10, IntKind.i64.wrap (t11 + 1))))
    else none
  else
    some (.inr (((slices0, size3))))

noncomputable def api_Entry_9.l2 : ((List (List UInt8 × Int)) × (List (List (List UInt8 × Int))) × Int × Int) → Option (((List (List UInt8 × Int)) × (List (List (List UInt8 × Int))) × Int × Int) ⊕ (List (List UInt8 × Int))) := fun (newslice6, t25, t26, t27) =>
  if decide (t27 < t26) = true then
    if 0 ≤ t27 ∧ t27 < (t25.length : Int) then
      if roomOk (newslice6.length + (t25.getD t27.toNat []).length) 24 then
        some (.inl ((newslice6 ++ (t25.getD t27.toNat []), t25, t26, IntKind.i64.wrap (t27 + 1))))
      else none
    else none
  else
    some (.inr newslice6)

noncomputable def api_Entry_9 : (List (List (List UInt8 × Int))) → Option (List (List UInt8 × Int)) := fun slices0 =>
  (loopO api_Entry_9.l1 ((slices0, 0, slices0, (slices0.length : Int), 0))).bind fun (slices0, size3) =>
    (api_Entry_8 size3).bind fun r24 =>
      (loopO api_Entry_9.l2 ((r24, slices0, (slices0.length : Int), 0))).bind fun newslice6 =>
        some newslice6

def api_Entry_9.ins : Spec := ⟨36, 0, [], [0], (.cons (.v (.sl (.sl (.st (.pair .str I))))) .nil)⟩
def api_Entry_9.outs : List Spec := [⟨36, 0, [], [2], (.cons (.v (.sl (.st (.pair .str I)))) .nil)⟩]
noncomputable def api_Entry_9.c : Callee' := ⟨34, mkFits api_Entry_9.ins api_Entry_9.outs, mkFun api_Entry_9.ins api_Entry_9.outs api_Entry_9⟩
theorem api_Entry_9.quiet : FunQuiet api_Entry_9.c.F := mkFun_quiet rfl rfl
noncomputable def api_Entry_9.ann : Ann :=
  (.seq (.reg []) (.seq (.reg []) (.seq (.seq (.reg []) (.block (.loop ⟨36, 0, [], [0, 3, 9, 10, 11], (.cons (.v (.sl (.sl (.st (.pair .str I))))) (.cons (.v I) (.cons (.v (.sl (.sl (.st (.pair .str I))))) (.cons (.v I) (.cons (.v I) .nil)))))⟩ [(.exit 0, ⟨36, 0, [], [0, 3], (.cons (.v (.sl (.sl (.st (.pair .str I))))) (.cons (.v I) .nil))⟩)]
  (.seq (.reg []) (.seq (.cond .std .std) (.seq (.block (.seq (.reg []) (.seq (.reg []) (.seq (.reg []) (.cond (.reg []) .std))))) (.reg []))))))) (.seq (.reg [.std, .call [api_Entry_8.c]]) (.seq (.seq (.reg []) (.block (.loop ⟨36, 0, [.arr (.st (.pair .str I))], [6, 25, 26, 27], (.cons (.ref 0) (.cons (.v (.sl (.sl (.st (.pair .str I))))) (.cons (.v I) (.cons (.v I) .nil))))⟩ [(.exit 2, ⟨36, 0, [.arr (.st (.pair .str I))], [6], (.cons (.ref 0) .nil)⟩)]
  (.seq (.reg []) (.seq (.cond .std .std) (.seq (.block (.seq (.reg []) (.reg [.std, .std, .obj (.st (.pair .str I))]))) (.reg []))))))) (.seq (.reg []) .std))))))
noncomputable def api_Entry_9.code : Code := match Tryd.f34.body with | some c => c | none => .skip
theorem api_Entry_9.eq : absFn tt 36 api_Entry_9.ins api_Entry_9.outs api_Entry_9.code api_Entry_9.ann = api_Entry_9 := by
  funext a
  kernel_rfl
theorem api_Entry_9.ok : api_Entry_9.ann.ok Tryd.prog 0 36 :=
  ann_ok (by kernel_rfl) (by kernel_rfl) (show ∀ c ∈ ([api_Entry_8.c] : List Callee'), c.ok Tryd.prog from cs_cons api_Entry_8.sound cs_nil)
    (show ∀ c ∈ ([] : List Callee'), FunQuiet c.F from cs_nil)
theorem api_Entry_9.sound : api_Entry_9.c.ok Tryd.prog := by
  refine ⟨?_, Tryd.f34, api_Entry_9.code, Tryd.func34, rfl, by decide⟩
  have h := fn_sound tt_ok mix_ok (x := api_Entry_9.ann) (ins := api_Entry_9.ins) (outs := api_Entry_9.outs) (N := 36) Tryd.func34 (c := api_Entry_9.code) rfl rfl (by kernel_rfl) (by kernel_rfl) api_Entry_9.ok (by decide)
  rw [api_Entry_9.eq] at h
  exact h

/-! ### wainwright/rolls.Of: function 21 -/
noncomputable def rolls_Of.l1 : (List (List UInt8 × Int)) → Option ((List (List UInt8 × Int)) ⊕ (List (List UInt8 × Int))) := fun l0 =>
  if (Int.tmod (l0.length : Int) 8 != 0) = true then
    if roomOk (l0.length + (([([], 0)] : List (List UInt8 × Int))).length) 24 then
      some (.inl (l0 ++ (([([], 0)] : List (List UInt8 × Int)))))
    else none
  else
    some (.inr l0)

noncomputable def rolls_Of : (List (List UInt8 × Int)) → Option (List (List UInt8 × Int)) := fun l0 =>
  (api_Entry_4 l0).bind fun r4 =>
    (loopO rolls_Of.l1 r4).bind fun l0 =>
      some l0

def rolls_Of.ins : Spec := ⟨14, 0, [], [0], (.cons (.v (.sl (.st (.pair .str I)))) .nil)⟩
def rolls_Of.outs : List Spec := [⟨14, 0, [], [2], (.cons (.v (.sl (.st (.pair .str I)))) .nil)⟩]
noncomputable def rolls_Of.c : Callee' := ⟨21, mkFits rolls_Of.ins rolls_Of.outs, mkFun rolls_Of.ins rolls_Of.outs rolls_Of⟩
theorem rolls_Of.quiet : FunQuiet rolls_Of.c.F := mkFun_quiet rfl rfl
noncomputable def rolls_Of.ann : Ann :=
  (.seq (.reg []) (.seq (.reg [.std, .call [api_Entry_4.c]]) (.seq (.block (.loop ⟨14, 0, [.arr (.st (.pair .str I))], [0], (.cons (.ref 0) .nil)⟩ [(.exit 0, ⟨14, 0, [.arr (.st (.pair .str I))], [0], (.cons (.ref 0) .nil)⟩)]
  (.seq (.seq (.reg []) (.cond .std .std)) (.block (.reg [.std, .std, .inl (.st (.pair .str I)), .obj (.st (.pair .str I))]))))) (.seq (.reg []) .std))))
noncomputable def rolls_Of.code : Code := match Tryd.f21.body with | some c => c | none => .skip
theorem rolls_Of.eq : absFn tt 14 rolls_Of.ins rolls_Of.outs rolls_Of.code rolls_Of.ann = rolls_Of := by
  funext a
  kernel_rfl
theorem rolls_Of.ok : rolls_Of.ann.ok Tryd.prog 0 14 :=
  ann_ok (by kernel_rfl) (by kernel_rfl) (show ∀ c ∈ ([api_Entry_4.c] : List Callee'), c.ok Tryd.prog from cs_cons api_Entry_4.sound cs_nil)
    (show ∀ c ∈ ([] : List Callee'), FunQuiet c.F from cs_nil)
theorem rolls_Of.sound : rolls_Of.c.ok Tryd.prog := by
  refine ⟨?_, Tryd.f21, rolls_Of.code, Tryd.func21, rfl, by decide⟩
  have h := fn_sound tt_ok mix_ok (x := rolls_Of.ann) (ins := rolls_Of.ins) (outs := rolls_Of.outs) (N := 14) Tryd.func21 (c := rolls_Of.code) rfl rfl (by kernel_rfl) (by kernel_rfl) rolls_Of.ok (by decide)
  rw [rolls_Of.eq] at h
  exact h

/-! ### wainwright/rolls.Add: function 10 -/
noncomputable def rolls_Add : ((List (List UInt8 × Int)) × List UInt8 × Int) → Option ((List (List UInt8 × Int)) × Int) := fun (l0, name1, node2) =>
  ((
    (rolls_Right l0).bind fun r12 =>
      if (!r12) = false then
        if decide (node2 < 1) = false then
          some (((l0, name1, node2, decide (node2 > 65535))))
        else
          some (((l0, name1, node2, true)))
      else
        some (((l0, name1, node2, true)))) : Option ((List (List UInt8 × Int)) × List UInt8 × Int × Bool)).bind fun (l0, name1, node2, t10) =>
    if t10 = true then
      some (((([] : List (List UInt8 × Int)), 1)))
    else
      (paths_Right name1).bind fun r24 =>
        if (!r24) = true then
          some (((([] : List (List UInt8 × Int)), 4)))
        else
          (rolls_at (l0, name1)).bind fun r29 =>
            if decide (r29 ≥ 0) = true then
              some (((([] : List (List UInt8 × Int)), 6)))
            else
              (rolls_Live l0).bind fun r33 =>
                if decide ((r33.length : Int) ≥ 160) = true then
                  some (((([] : List (List UInt8 × Int)), 12)))
                else
                  (api_Entry_3 l0).bind fun r40 =>
                    if decide (r40 ≥ 0) = true then
                      (api_Entry_4 l0).bind fun r44 =>
                        if 0 ≤ r40 ∧ r40 < (r44.length : Int) then
                          some (((r44.set r40.toNat ((name1, node2)), 0)))
                        else none
                    else
                      (api_Entry_9 ([l0, ([(name1, node2)] : List (List UInt8 × Int))] : List (List (List UInt8 × Int)))).bind fun r54 =>
                        (rolls_Of r54).bind fun r55 =>
                          some (((r55, 0)))

def rolls_Add.ins : Spec := ⟨56, 0, [], [0, 1, 2], (.cons (.v (.sl (.st (.pair .str I)))) (.cons (.v .str) (.cons (.v I) .nil)))⟩
def rolls_Add.outs : List Spec := [⟨56, 0, [], [6, 7], (.cons (.v (.sl (.st (.pair .str I)))) (.cons (.v I) .nil))⟩]
noncomputable def rolls_Add.c : Callee' := ⟨10, mkFits rolls_Add.ins rolls_Add.outs, mkFun rolls_Add.ins rolls_Add.outs rolls_Add⟩
theorem rolls_Add.quiet : FunQuiet rolls_Add.c.F := mkFun_quiet rfl rfl
noncomputable def rolls_Add.ann : Ann :=
  (.seq (.reg []) (.seq (.block (.join [(.norm, ⟨56, 0, [], [0, 1, 2, 10], (.cons (.v (.sl (.st (.pair .str I)))) (.cons (.v .str) (.cons (.v I) (.cons (.v .bool) .nil))))⟩)]
  (.reg [.std, .callq [rolls_Right.c]]) (.cond (.seq (.reg []) .std) (.seq (.reg [.std, .callq [paths_Right.c]]) (.cond (.seq (.reg []) .std) (.seq (.reg [.std, .std, .callq [rolls_at.c]]) (.cond (.seq (.reg []) .std) (.seq (.reg [.std, .callq [rolls_Live.c]]) (.cond (.seq (.reg []) .std) .std))))))))) (.seq (.reg []) (.seq (.seq (.reg [.std, .callq [api_Entry_3.c]]) (.seq (.reg []) (.cond (.seq (.reg [.std, .call [api_Entry_4.c]]) (.seq (.reg []) (.seq (.reg []) .std))) .std))) (.seq (.reg [.std, .std, .inl (.st (.pair .str I)), .inl (.sl (.st (.pair .str I))), .callq [api_Entry_9.c], .callq [rolls_Of.c]]) .std)))))
noncomputable def rolls_Add.code : Code := match Tryd.f10.body with | some c => c | none => .skip
theorem rolls_Add.eq : absFn tt 56 rolls_Add.ins rolls_Add.outs rolls_Add.code rolls_Add.ann = rolls_Add := by
  funext a
  kernel_rfl
theorem rolls_Add.ok : rolls_Add.ann.ok Tryd.prog 0 56 :=
  ann_ok (by kernel_rfl) (by kernel_rfl) (show ∀ c ∈ ([rolls_Right.c, paths_Right.c, rolls_at.c, rolls_Live.c, api_Entry_3.c, api_Entry_4.c, api_Entry_9.c, rolls_Of.c] : List Callee'), c.ok Tryd.prog from cs_cons rolls_Right.sound (cs_cons paths_Right.sound (cs_cons rolls_at.sound (cs_cons rolls_Live.sound (cs_cons api_Entry_3.sound (cs_cons api_Entry_4.sound (cs_cons api_Entry_9.sound (cs_cons rolls_Of.sound cs_nil))))))))
    (show ∀ c ∈ ([rolls_Right.c, paths_Right.c, rolls_at.c, rolls_Live.c, api_Entry_3.c, api_Entry_9.c, rolls_Of.c] : List Callee'), FunQuiet c.F from cs_cons rolls_Right.quiet (cs_cons paths_Right.quiet (cs_cons rolls_at.quiet (cs_cons rolls_Live.quiet (cs_cons api_Entry_3.quiet (cs_cons api_Entry_9.quiet (cs_cons rolls_Of.quiet cs_nil)))))))
theorem rolls_Add.sound : rolls_Add.c.ok Tryd.prog := by
  refine ⟨?_, Tryd.f10, rolls_Add.code, Tryd.func10, rfl, by decide⟩
  have h := fn_sound tt_ok mix_ok (x := rolls_Add.ann) (ins := rolls_Add.ins) (outs := rolls_Add.outs) (N := 56) Tryd.func10 (c := rolls_Add.code) rfl rfl (by kernel_rfl) (by kernel_rfl) rolls_Add.ok (by decide)
  rw [rolls_Add.eq] at h
  exact h

/-! ### wainwright/rolls.Drop: function 12 -/
noncomputable def rolls_Drop : ((List (List UInt8 × Int)) × List UInt8) → Option ((List (List UInt8 × Int)) × Int × Int) := fun (l0, name1) =>
  (rolls_Right l0).bind fun r10 =>
    if (!r10) = true then
      some (((([] : List (List UInt8 × Int)), 0, 1)))
    else
      (rolls_at (l0, name1)).bind fun r14 =>
        if decide (r14 < 0) = true then
          some (((([] : List (List UInt8 × Int)), 0, 5)))
        else
          (api_Entry_4 l0).bind fun r18 =>
            if 0 ≤ r14 ∧ r14 < (r18.length : Int) then
              if 0 ≤ r14 ∧ r14 < (l0.length : Int) then
                some (((r18.set r14.toNat (([], 0)), (l0.getD r14.toNat ([], 0)).2, 0)))
              else none
            else none

def rolls_Drop.ins : Spec := ⟨29, 0, [], [0, 1], (.cons (.v (.sl (.st (.pair .str I)))) (.cons (.v .str) .nil))⟩
def rolls_Drop.outs : List Spec := [⟨29, 0, [], [4, 5, 6], (.cons (.v (.sl (.st (.pair .str I)))) (.cons (.v I) (.cons (.v I) .nil)))⟩]
noncomputable def rolls_Drop.c : Callee' := ⟨12, mkFits rolls_Drop.ins rolls_Drop.outs, mkFun rolls_Drop.ins rolls_Drop.outs rolls_Drop⟩
theorem rolls_Drop.quiet : FunQuiet rolls_Drop.c.F := mkFun_quiet rfl rfl
noncomputable def rolls_Drop.ann : Ann :=
  (.seq (.reg []) (.seq (.seq (.reg [.std, .callq [rolls_Right.c]]) (.cond (.seq (.reg []) .std) .std)) (.seq (.reg [.std, .std, .callq [rolls_at.c]]) (.seq (.seq (.reg []) (.cond (.seq (.reg []) .std) .std)) (.seq (.reg [.std, .call [api_Entry_4.c]]) (.seq (.reg []) (.seq (.drw []) .std)))))))
noncomputable def rolls_Drop.code : Code := match Tryd.f12.body with | some c => c | none => .skip
theorem rolls_Drop.eq : absFn tt 29 rolls_Drop.ins rolls_Drop.outs rolls_Drop.code rolls_Drop.ann = rolls_Drop := by
  funext a
  kernel_rfl
theorem rolls_Drop.ok : rolls_Drop.ann.ok Tryd.prog 0 29 :=
  ann_ok (by kernel_rfl) (by kernel_rfl) (show ∀ c ∈ ([rolls_Right.c, rolls_at.c, api_Entry_4.c] : List Callee'), c.ok Tryd.prog from cs_cons rolls_Right.sound (cs_cons rolls_at.sound (cs_cons api_Entry_4.sound cs_nil)))
    (show ∀ c ∈ ([rolls_Right.c, rolls_at.c] : List Callee'), FunQuiet c.F from cs_cons rolls_Right.quiet (cs_cons rolls_at.quiet cs_nil))
theorem rolls_Drop.sound : rolls_Drop.c.ok Tryd.prog := by
  refine ⟨?_, Tryd.f12, rolls_Drop.code, Tryd.func12, rfl, by decide⟩
  have h := fn_sound tt_ok mix_ok (x := rolls_Drop.ann) (ins := rolls_Drop.ins) (outs := rolls_Drop.outs) (N := 29) Tryd.func12 (c := rolls_Drop.code) rfl rfl (by kernel_rfl) (by kernel_rfl) rolls_Drop.ok (by decide)
  rw [rolls_Drop.eq] at h
  exact h

/-! ### wainwright/wainwrightlaw07.lives: function 8 -/
noncomputable def wainwrightlaw07_lives : Unit → Option (Bool) := fun _ =>
  (rolls_Add (([] : List (List UInt8 × Int)), ([97] : List UInt8), 2)).bind fun (r11, r11_2) =>
    (rolls_Add (r11, ([98] : List UInt8), 3)).bind fun (r16, r16_2) =>
      (rolls_Drop (r16, ([97] : List UInt8))).bind fun (r21, r21_2, r21_3) =>
        (rolls_Add (r21, ([99] : List UInt8), 4)).bind fun (r27, r27_2) =>
          if (r11_2 == 0) = true then
            if (r16_2 == 0) = true then
              if (r21_3 == 0) = true then
                if (r27_2 == 0) = true then
                  if (r21_2 == 2) = true then
                    if ((r27.length : Int) == 8) = true then
                      if 0 ≤ (0 : Int) ∧ (0 : Int) < (r27.length : Int) then
                        if (((r27.getD 0 ([], 0)).1) == (([99] : List UInt8))) = true then
                          if 0 ≤ (1 : Int) ∧ (1 : Int) < (r27.length : Int) then
                            if (((r27.getD 1 ([], 0)).1) == (([98] : List UInt8))) = true then
                              (rolls_Right r27).bind fun r69 =>
                                some r69
                            else
                              some false
                          else none
                        else
                          some false
                      else none
                    else
                      some false
                  else
                    some false
                else
                  some false
              else
                some false
            else
              some false
          else
            some false

def wainwrightlaw07_lives.ins : Spec := ⟨71, 0, [], [], .nil⟩
def wainwrightlaw07_lives.outs : List Spec := [⟨71, 0, [], [0], (.cons (.v .bool) .nil)⟩]
noncomputable def wainwrightlaw07_lives.c : Callee' := ⟨8, mkFits wainwrightlaw07_lives.ins wainwrightlaw07_lives.outs, mkFun wainwrightlaw07_lives.ins wainwrightlaw07_lives.outs wainwrightlaw07_lives⟩
theorem wainwrightlaw07_lives.quiet : FunQuiet wainwrightlaw07_lives.c.F := mkFun_quiet rfl rfl
noncomputable def wainwrightlaw07_lives.ann : Ann :=
  (.seq (.reg []) (.seq (.reg [.callq [rolls_Add.c]]) (.seq (.reg [.std, .callq [rolls_Add.c]]) (.seq (.reg [.std, .callq [rolls_Drop.c]]) (.seq (.reg [.std, .callq [rolls_Add.c]]) (.seq (.reg [.std, .std, .std, .std, .std, .std, .std, .std, .std, .std, .std, .std, .std, .std, .std, .std, .std, .std, .std, .std, .std, .std, .std, .std, .std, .std, .std, .std, .std, .std, .std, .std, .std, .std, .std, .std, .std, .std, .std, .callq [rolls_Right.c]]) .std))))))
noncomputable def wainwrightlaw07_lives.code : Code := match Tryd.f8.body with | some c => c | none => .skip
theorem wainwrightlaw07_lives.eq : absFn tt 71 wainwrightlaw07_lives.ins wainwrightlaw07_lives.outs wainwrightlaw07_lives.code wainwrightlaw07_lives.ann = wainwrightlaw07_lives := by
  funext a
  kernel_rfl
theorem wainwrightlaw07_lives.ok : wainwrightlaw07_lives.ann.ok Tryd.prog 0 71 :=
  ann_ok (by kernel_rfl) (by kernel_rfl) (show ∀ c ∈ ([rolls_Add.c, rolls_Add.c, rolls_Drop.c, rolls_Add.c, rolls_Right.c] : List Callee'), c.ok Tryd.prog from cs_cons rolls_Add.sound (cs_cons rolls_Add.sound (cs_cons rolls_Drop.sound (cs_cons rolls_Add.sound (cs_cons rolls_Right.sound cs_nil)))))
    (show ∀ c ∈ ([rolls_Add.c, rolls_Add.c, rolls_Drop.c, rolls_Add.c, rolls_Right.c] : List Callee'), FunQuiet c.F from cs_cons rolls_Add.quiet (cs_cons rolls_Add.quiet (cs_cons rolls_Drop.quiet (cs_cons rolls_Add.quiet (cs_cons rolls_Right.quiet cs_nil)))))
theorem wainwrightlaw07_lives.sound : wainwrightlaw07_lives.c.ok Tryd.prog := by
  refine ⟨?_, Tryd.f8, wainwrightlaw07_lives.code, Tryd.func8, rfl, by decide⟩
  have h := fn_sound tt_ok mix_ok (x := wainwrightlaw07_lives.ann) (ins := wainwrightlaw07_lives.ins) (outs := wainwrightlaw07_lives.outs) (N := 71) Tryd.func8 (c := wainwrightlaw07_lives.code) rfl rfl (by kernel_rfl) (by kernel_rfl) wainwrightlaw07_lives.ok (by decide)
  rw [wainwrightlaw07_lives.eq] at h
  exact h

/-! ### wainwright/wainwrightlaw07.early: function 9 -/
noncomputable def wainwrightlaw07_early : (List (List UInt8 × Int)) → Option (List (List UInt8 × Int)) := fun l0 =>
  if 0 ≤ (if 200 < (l0.length : Int) then 200 else (l0.length : Int)) ∧ (if 200 < (l0.length : Int) then 200 else (l0.length : Int)) ≤ (l0.length : Int) then
    some ((l0.take ((if 200 < (l0.length : Int) then 200 else (l0.length : Int))).toNat))
  else none

def wainwrightlaw07_early.ins : Spec := ⟨8, 0, [], [0], (.cons (.v (.sl (.st (.pair .str I)))) .nil)⟩
def wainwrightlaw07_early.outs : List Spec := [⟨8, 0, [], [2], (.cons (.v (.sl (.st (.pair .str I)))) .nil)⟩]
noncomputable def wainwrightlaw07_early.c : Callee' := ⟨9, mkFits wainwrightlaw07_early.ins wainwrightlaw07_early.outs, mkFun wainwrightlaw07_early.ins wainwrightlaw07_early.outs wainwrightlaw07_early⟩
theorem wainwrightlaw07_early.quiet : FunQuiet wainwrightlaw07_early.c.F := mkFun_quiet rfl rfl
noncomputable def wainwrightlaw07_early.ann : Ann :=
  (.seq (.reg []) (.seq (.reg []) .std))
noncomputable def wainwrightlaw07_early.code : Code := match Tryd.f9.body with | some c => c | none => .skip
theorem wainwrightlaw07_early.eq : absFn tt 8 wainwrightlaw07_early.ins wainwrightlaw07_early.outs wainwrightlaw07_early.code wainwrightlaw07_early.ann = wainwrightlaw07_early := by
  funext a
  kernel_rfl
theorem wainwrightlaw07_early.ok : wainwrightlaw07_early.ann.ok Tryd.prog 0 8 :=
  ann_ok (by kernel_rfl) (by kernel_rfl) (show ∀ c ∈ ([] : List Callee'), c.ok Tryd.prog from cs_nil)
    (show ∀ c ∈ ([] : List Callee'), FunQuiet c.F from cs_nil)
theorem wainwrightlaw07_early.sound : wainwrightlaw07_early.c.ok Tryd.prog := by
  refine ⟨?_, Tryd.f9, wainwrightlaw07_early.code, Tryd.func9, rfl, by decide⟩
  have h := fn_sound tt_ok mix_ok (x := wainwrightlaw07_early.ann) (ins := wainwrightlaw07_early.ins) (outs := wainwrightlaw07_early.outs) (N := 8) Tryd.func9 (c := wainwrightlaw07_early.code) rfl rfl (by kernel_rfl) (by kernel_rfl) wainwrightlaw07_early.ok (by decide)
  rw [wainwrightlaw07_early.eq] at h
  exact h

/-! ### wainwright/wainwrightref07.Live: function 20 -/
noncomputable def wainwrightref07_Live.l1 : ((List (List UInt8 × Int)) × (List (List UInt8 × Int)) × Int) → Option (((List (List UInt8 × Int)) × (List (List UInt8 × Int)) × Int) ⊕ (List (List UInt8 × Int))) := fun (out3, l0, i4) =>
  if decide (i4 < (l0.length : Int)) = true then
    if 0 ≤ i4 ∧ i4 < (l0.length : Int) then
      if ((l0.getD i4.toNat ([], 0)).2 != 0) = true then
        if 0 ≤ i4 ∧ i4 < (l0.length : Int) then
          if roomOk (out3.length + (([((l0.getD i4.toNat ([], 0)).1, (l0.getD i4.toNat ([], 0)).2)] : List (List UInt8 × Int))).length) 24 then
            some (.inl ((out3 ++ (([((l0.getD i4.toNat ([], 0)).1, (l0.getD i4.toNat ([], 0)).2)] : List (List UInt8 × Int))), l0, IntKind.i64.wrap (i4 + 1))))
          else none
        else none
      else
        some (.inl ((out3, l0, IntKind.i64.wrap (i4 + 1))))
    else none
  else
    some (.inr out3)

noncomputable def wainwrightref07_Live : (List (List UInt8 × Int)) → Option (List (List UInt8 × Int)) := fun l0 =>
  (loopO wainwrightref07_Live.l1 (([], l0, 0))).bind fun out3 =>
    some out3

def wainwrightref07_Live.ins : Spec := ⟨25, 0, [], [0], (.cons (.v (.sl (.st (.pair .str I)))) .nil)⟩
def wainwrightref07_Live.outs : List Spec := [⟨25, 0, [], [2], (.cons (.v (.sl (.st (.pair .str I)))) .nil)⟩]
noncomputable def wainwrightref07_Live.c : Callee' := ⟨20, mkFits wainwrightref07_Live.ins wainwrightref07_Live.outs, mkFun wainwrightref07_Live.ins wainwrightref07_Live.outs wainwrightref07_Live⟩
theorem wainwrightref07_Live.quiet : FunQuiet wainwrightref07_Live.c.F := mkFun_quiet rfl rfl
noncomputable def wainwrightref07_Live.ann : Ann :=
  (.seq (.reg []) (.seq (.reg []) (.seq (.seq (.reg []) (.block (.loop ⟨25, 0, [.arr (.st (.pair .str I))], [0, 3, 4], (.cons (.v (.sl (.st (.pair .str I)))) (.cons (.ref 0) (.cons (.v I) .nil)))⟩ [(.exit 0, ⟨25, 0, [.arr (.st (.pair .str I))], [3], (.cons (.ref 0) .nil)⟩)]
  (.seq (.seq (.reg []) (.cond .std .std)) (.seq (.block (.seq (.reg []) (.cond (.reg [.std, .std, .std, .std, .std, .inl (.st (.pair .str I)), .obj (.st (.pair .str I))]) .std))) (.reg [])))))) (.seq (.reg []) .std))))
noncomputable def wainwrightref07_Live.code : Code := match Tryd.f20.body with | some c => c | none => .skip
theorem wainwrightref07_Live.eq : absFn tt 25 wainwrightref07_Live.ins wainwrightref07_Live.outs wainwrightref07_Live.code wainwrightref07_Live.ann = wainwrightref07_Live := by
  funext a
  kernel_rfl
theorem wainwrightref07_Live.ok : wainwrightref07_Live.ann.ok Tryd.prog 0 25 :=
  ann_ok (by kernel_rfl) (by kernel_rfl) (show ∀ c ∈ ([] : List Callee'), c.ok Tryd.prog from cs_nil)
    (show ∀ c ∈ ([] : List Callee'), FunQuiet c.F from cs_nil)
theorem wainwrightref07_Live.sound : wainwrightref07_Live.c.ok Tryd.prog := by
  refine ⟨?_, Tryd.f20, wainwrightref07_Live.code, Tryd.func20, rfl, by decide⟩
  have h := fn_sound tt_ok mix_ok (x := wainwrightref07_Live.ann) (ins := wainwrightref07_Live.ins) (outs := wainwrightref07_Live.outs) (N := 25) Tryd.func20 (c := wainwrightref07_Live.code) rfl rfl (by kernel_rfl) (by kernel_rfl) wainwrightref07_Live.ok (by decide)
  rw [wainwrightref07_Live.eq] at h
  exact h

/-! ### wainwright/wainwrightref07.node: function 35 -/
noncomputable def wainwrightref07_node : Int → Option (Bool) := fun n0 =>
  if decide (n0 ≥ 1) = true then
    some ((decide (n0 ≤ 65535)))
  else
    some false

def wainwrightref07_node.ins : Spec := ⟨9, 0, [], [0], (.cons (.v I) .nil)⟩
def wainwrightref07_node.outs : List Spec := [⟨9, 0, [], [2], (.cons (.v .bool) .nil)⟩]
noncomputable def wainwrightref07_node.c : Callee' := ⟨35, mkFits wainwrightref07_node.ins wainwrightref07_node.outs, mkFun wainwrightref07_node.ins wainwrightref07_node.outs wainwrightref07_node⟩
theorem wainwrightref07_node.quiet : FunQuiet wainwrightref07_node.c.F := mkFun_quiet rfl rfl
noncomputable def wainwrightref07_node.ann : Ann :=
  (.seq (.reg []) (.seq (.reg []) .std))
noncomputable def wainwrightref07_node.code : Code := match Tryd.f35.body with | some c => c | none => .skip
theorem wainwrightref07_node.eq : absFn tt 9 wainwrightref07_node.ins wainwrightref07_node.outs wainwrightref07_node.code wainwrightref07_node.ann = wainwrightref07_node := by
  funext a
  kernel_rfl
theorem wainwrightref07_node.ok : wainwrightref07_node.ann.ok Tryd.prog 0 9 :=
  ann_ok (by kernel_rfl) (by kernel_rfl) (show ∀ c ∈ ([] : List Callee'), c.ok Tryd.prog from cs_nil)
    (show ∀ c ∈ ([] : List Callee'), FunQuiet c.F from cs_nil)
theorem wainwrightref07_node.sound : wainwrightref07_node.c.ok Tryd.prog := by
  refine ⟨?_, Tryd.f35, wainwrightref07_node.code, Tryd.func35, rfl, by decide⟩
  have h := fn_sound tt_ok mix_ok (x := wainwrightref07_node.ann) (ins := wainwrightref07_node.ins) (outs := wainwrightref07_node.outs) (N := 9) Tryd.func35 (c := wainwrightref07_node.code) rfl rfl (by kernel_rfl) (by kernel_rfl) wainwrightref07_node.ok (by decide)
  rw [wainwrightref07_node.eq] at h
  exact h

/-! ### wainwright/wainwrightref06.sign: function 39 -/
noncomputable def wainwrightref06_sign : Int → Option (Bool) := fun c0 =>
  if decide (c0 ≥ 97) = true then
    if decide (c0 ≤ 122) = false then
      if decide (c0 ≥ 48) = true then
        if decide (c0 ≤ 57) = false then
          if (c0 == 46) = false then
            if (c0 == 45) = false then
              some (((c0 == 95)))
            else
              some true
          else
            some true
        else
          some true
      else
        if (c0 == 46) = false then
          if (c0 == 45) = false then
            some (((c0 == 95)))
          else
            some true
        else
          some true
    else
      some true
  else
    if decide (c0 ≥ 48) = true then
      if decide (c0 ≤ 57) = false then
        if (c0 == 46) = false then
          if (c0 == 45) = false then
            some (((c0 == 95)))
          else
            some true
        else
          some true
      else
        some true
    else
      if (c0 == 46) = false then
        if (c0 == 45) = false then
          some (((c0 == 95)))
        else
          some true
      else
        some true

def wainwrightref06_sign.ins : Spec := ⟨29, 0, [], [0], (.cons (.v (.int .u8)) .nil)⟩
def wainwrightref06_sign.outs : List Spec := [⟨29, 0, [], [2], (.cons (.v .bool) .nil)⟩]
noncomputable def wainwrightref06_sign.c : Callee' := ⟨39, mkFits wainwrightref06_sign.ins wainwrightref06_sign.outs, mkFun wainwrightref06_sign.ins wainwrightref06_sign.outs wainwrightref06_sign⟩
theorem wainwrightref06_sign.quiet : FunQuiet wainwrightref06_sign.c.F := mkFun_quiet rfl rfl
noncomputable def wainwrightref06_sign.ann : Ann :=
  (.seq (.reg []) (.seq (.reg []) .std))
noncomputable def wainwrightref06_sign.code : Code := match Tryd.f39.body with | some c => c | none => .skip
theorem wainwrightref06_sign.eq : absFn tt 29 wainwrightref06_sign.ins wainwrightref06_sign.outs wainwrightref06_sign.code wainwrightref06_sign.ann = wainwrightref06_sign := by
  funext a
  kernel_rfl
theorem wainwrightref06_sign.ok : wainwrightref06_sign.ann.ok Tryd.prog 0 29 :=
  ann_ok (by kernel_rfl) (by kernel_rfl) (show ∀ c ∈ ([] : List Callee'), c.ok Tryd.prog from cs_nil)
    (show ∀ c ∈ ([] : List Callee'), FunQuiet c.F from cs_nil)
theorem wainwrightref06_sign.sound : wainwrightref06_sign.c.ok Tryd.prog := by
  refine ⟨?_, Tryd.f39, wainwrightref06_sign.code, Tryd.func39, rfl, by decide⟩
  have h := fn_sound tt_ok mix_ok (x := wainwrightref06_sign.ann) (ins := wainwrightref06_sign.ins) (outs := wainwrightref06_sign.outs) (N := 29) Tryd.func39 (c := wainwrightref06_sign.code) rfl rfl (by kernel_rfl) (by kernel_rfl) wainwrightref06_sign.ok (by decide)
  rw [wainwrightref06_sign.eq] at h
  exact h

/-! ### wainwright/wainwrightref06.Right: function 23 -/
noncomputable def wainwrightref06_Right.l1 : (List UInt8 × Int) → Option ((List UInt8 × Int) ⊕ ((List UInt8) ⊕ Bool)) := fun (name0, i3) =>
  if decide (i3 < (name0.length : Int)) = true then
    if 0 ≤ i3 ∧ i3 < (name0.length : Int) then
      (wainwrightref06_sign ((name0.getD i3.toNat 0).toNat : Int)).bind fun r13 =>
        if (!r13) = true then
          some (.inr (.inr false))
        else
          some (.inl ((name0, IntKind.i64.wrap (i3 + 1))))
    else none
  else
    some (.inr (.inl name0))

noncomputable def wainwrightref06_Right : List UInt8 → Option (Bool) := fun name0 =>
  (loopO wainwrightref06_Right.l1 ((name0, 0))).bind fun d => match d with
  | .inl name0 =>
    if decide ((name0.length : Int) ≥ 1) = true then
      if decide ((name0.length : Int) ≤ 11) = true then
        if (!(name0 == (([46] : List UInt8)))) = true then
          some (((!(name0 == (([46, 46] : List UInt8))))))
        else
          some false
      else
        some false
    else
      some false
  | .inr t2 =>
    some t2

def wainwrightref06_Right.ins : Spec := ⟨31, 0, [], [0], (.cons (.v .str) .nil)⟩
def wainwrightref06_Right.outs : List Spec := [⟨31, 0, [], [2], (.cons (.v .bool) .nil)⟩]
noncomputable def wainwrightref06_Right.c : Callee' := ⟨23, mkFits wainwrightref06_Right.ins wainwrightref06_Right.outs, mkFun wainwrightref06_Right.ins wainwrightref06_Right.outs wainwrightref06_Right⟩
theorem wainwrightref06_Right.quiet : FunQuiet wainwrightref06_Right.c.F := mkFun_quiet rfl rfl
noncomputable def wainwrightref06_Right.ann : Ann :=
  (.seq (.reg []) (.seq (.seq (.reg []) (.block (.loop ⟨31, 0, [], [0, 3], (.cons (.v .str) (.cons (.v I) .nil))⟩ [(.exit 0, ⟨31, 0, [], [0], (.cons (.v .str) .nil)⟩), (.ret, ⟨31, 0, [], [2], (.cons (.v .bool) .nil)⟩)]
  (.seq (.seq (.reg []) (.cond .std .std)) (.seq (.block (.seq (.reg [.std, .std, .std, .callq [wainwrightref06_sign.c]]) (.cond (.seq (.reg []) .std) .std))) (.reg [])))))) (.seq (.reg []) .std)))
noncomputable def wainwrightref06_Right.code : Code := match Tryd.f23.body with | some c => c | none => .skip
theorem wainwrightref06_Right.eq : absFn tt 31 wainwrightref06_Right.ins wainwrightref06_Right.outs wainwrightref06_Right.code wainwrightref06_Right.ann = wainwrightref06_Right := by
  funext a
  kernel_rfl
theorem wainwrightref06_Right.ok : wainwrightref06_Right.ann.ok Tryd.prog 0 31 :=
  ann_ok (by kernel_rfl) (by kernel_rfl) (show ∀ c ∈ ([wainwrightref06_sign.c] : List Callee'), c.ok Tryd.prog from cs_cons wainwrightref06_sign.sound cs_nil)
    (show ∀ c ∈ ([wainwrightref06_sign.c] : List Callee'), FunQuiet c.F from cs_cons wainwrightref06_sign.quiet cs_nil)
theorem wainwrightref06_Right.sound : wainwrightref06_Right.c.ok Tryd.prog := by
  refine ⟨?_, Tryd.f23, wainwrightref06_Right.code, Tryd.func23, rfl, by decide⟩
  have h := fn_sound tt_ok mix_ok (x := wainwrightref06_Right.ann) (ins := wainwrightref06_Right.ins) (outs := wainwrightref06_Right.outs) (N := 31) Tryd.func23 (c := wainwrightref06_Right.code) rfl rfl (by kernel_rfl) (by kernel_rfl) wainwrightref06_Right.ok (by decide)
  rw [wainwrightref06_Right.eq] at h
  exact h

/-! ### wainwright/wainwrightref07.Right: function 18 -/
noncomputable def wainwrightref07_Right.l2 : ((List (List UInt8 × Int)) × Int × Int) → Option (((List (List UInt8 × Int)) × Int × Int) ⊕ (((List (List UInt8 × Int)) × Int) ⊕ Bool)) := fun (l0, i3, k4) =>
  if decide (k4 < i3) = true then
    if 0 ≤ k4 ∧ k4 < (l0.length : Int) then
      if 0 ≤ i3 ∧ i3 < (l0.length : Int) then
        if (((l0.getD k4.toNat ([], 0)).1) == ((l0.getD i3.toNat ([], 0)).1)) = true then
          some (.inr (.inr false))
        else
          some (.inl ((l0, i3, IntKind.i64.wrap (k4 + 1))))
      else none
    else none
  else
    some (.inr (.inl ((l0, i3))))

noncomputable def wainwrightref07_Right.l1 : ((List (List UInt8 × Int)) × Int) → Option (((List (List UInt8 × Int)) × Int) ⊕ (Unit ⊕ Bool)) := fun (l0, i3) =>
  if decide (i3 < (l0.length : Int)) = true then
    if 0 ≤ i3 ∧ i3 < (l0.length : Int) then
      if ((((l0.getD i3.toNat ([], 0)).1) == []) && ((l0.getD i3.toNat ([], 0)).2 == 0)) = true then
        some (.inl ((l0, IntKind.i64.wrap (i3 + 1))))
      else
        if 0 ≤ i3 ∧ i3 < (l0.length : Int) then
          (wainwrightref07_node (l0.getD i3.toNat ([], 0)).2).bind fun r32 =>
            if (!r32) = false then
              if 0 ≤ i3 ∧ i3 < (l0.length : Int) then
                (wainwrightref06_Right (l0.getD i3.toNat ([], 0)).1).bind fun r40 =>
                  if (!r40) = true then
                    some (.inr (.inr false))
                  else
                    (loopO wainwrightref07_Right.l2 ((l0, i3, 0))).bind fun d => match d with
                    | .inl (l0, i3) =>
                      some (.inl ((l0, IntKind.i64.wrap (i3 + 1))))
                    | .inr t2 =>
                      some (.inr (.inr t2))
              else none
            else
              some (.inr (.inr false))
        else none
    else none
  else
    some (.inr (.inl ()))

noncomputable def wainwrightref07_Right : (List (List UInt8 × Int)) → Option (Bool) := fun l0 =>
  if (Int.tmod (l0.length : Int) 8 != 0) = false then
    (wainwrightref07_Live l0).bind fun r11 =>
      if decide ((r11.length : Int) > 160) = true then
        some false
      else
        (loopO wainwrightref07_Right.l1 ((l0, 0))).bind fun d => match d with
        | .inl _ =>
          some true
        | .inr t2 =>
          some t2
  else
    some false

def wainwrightref07_Right.ins : Spec := ⟨59, 0, [], [0], (.cons (.v (.sl (.st (.pair .str I)))) .nil)⟩
def wainwrightref07_Right.outs : List Spec := [⟨59, 0, [], [2], (.cons (.v .bool) .nil)⟩]
noncomputable def wainwrightref07_Right.c : Callee' := ⟨18, mkFits wainwrightref07_Right.ins wainwrightref07_Right.outs, mkFun wainwrightref07_Right.ins wainwrightref07_Right.outs wainwrightref07_Right⟩
theorem wainwrightref07_Right.quiet : FunQuiet wainwrightref07_Right.c.F := mkFun_quiet rfl rfl
noncomputable def wainwrightref07_Right.ann : Ann :=
  (.seq (.reg []) (.seq (.seq (.reg [.std, .std, .std, .std, .std, .std, .callq [wainwrightref07_Live.c]]) (.cond (.seq (.reg []) .std) .std)) (.seq (.seq (.reg []) (.block (.loop ⟨59, 0, [], [0, 3], (.cons (.v (.sl (.st (.pair .str I)))) (.cons (.v I) .nil))⟩ [(.exit 0, ⟨59, 0, [], [], .nil⟩), (.ret, ⟨59, 0, [], [2], (.cons (.v .bool) .nil)⟩)]
  (.seq (.seq (.reg []) (.cond .std .std)) (.seq (.block (.seq (.seq (.reg [.std, .std, .std, .std, .std, .eqs 33]) (.cond .std .std)) (.seq (.seq (.reg [.std, .std, .std, .std, .std, .callq [wainwrightref07_node.c], .std, .std, .std, .std, .std, .std, .std, .callq [wainwrightref06_Right.c]]) (.cond (.seq (.reg []) .std) .std)) (.seq (.reg []) (.block (.loop ⟨59, 0, [], [0, 3, 4], (.cons (.v (.sl (.st (.pair .str I)))) (.cons (.v I) (.cons (.v I) .nil)))⟩ [(.exit 2, ⟨59, 0, [], [0, 3], (.cons (.v (.sl (.st (.pair .str I)))) (.cons (.v I) .nil))⟩), (.ret, ⟨59, 0, [], [2], (.cons (.v .bool) .nil)⟩)]
  (.seq (.seq (.reg []) (.cond .std .std)) (.seq (.block (.seq (.drw []) (.cond (.seq (.reg []) .std) .std))) (.reg []))))))))) (.reg [])))))) (.seq (.reg []) .std))))
noncomputable def wainwrightref07_Right.code : Code := match Tryd.f18.body with | some c => c | none => .skip
theorem wainwrightref07_Right.eq : absFn tt 59 wainwrightref07_Right.ins wainwrightref07_Right.outs wainwrightref07_Right.code wainwrightref07_Right.ann = wainwrightref07_Right := by
  funext a
  kernel_rfl
theorem wainwrightref07_Right.ok : wainwrightref07_Right.ann.ok Tryd.prog 0 59 :=
  ann_ok (by kernel_rfl) (by kernel_rfl) (show ∀ c ∈ ([wainwrightref07_Live.c, wainwrightref07_node.c, wainwrightref06_Right.c] : List Callee'), c.ok Tryd.prog from cs_cons wainwrightref07_Live.sound (cs_cons wainwrightref07_node.sound (cs_cons wainwrightref06_Right.sound cs_nil)))
    (show ∀ c ∈ ([wainwrightref07_Live.c, wainwrightref07_node.c, wainwrightref06_Right.c] : List Callee'), FunQuiet c.F from cs_cons wainwrightref07_Live.quiet (cs_cons wainwrightref07_node.quiet (cs_cons wainwrightref06_Right.quiet cs_nil)))
theorem wainwrightref07_Right.sound : wainwrightref07_Right.c.ok Tryd.prog := by
  refine ⟨?_, Tryd.f18, wainwrightref07_Right.code, Tryd.func18, rfl, by decide⟩
  have h := fn_sound tt_ok mix_ok (x := wainwrightref07_Right.ann) (ins := wainwrightref07_Right.ins) (outs := wainwrightref07_Right.outs) (N := 59) Tryd.func18 (c := wainwrightref07_Right.code) rfl rfl (by kernel_rfl) (by kernel_rfl) wainwrightref07_Right.ok (by decide)
  rw [wainwrightref07_Right.eq] at h
  exact h

/-! ### wainwright/wainwrightref07.Find: function 16 -/
noncomputable def wainwrightref07_Find.l1 : ((List (List UInt8 × Int)) × List UInt8 × Int) → Option (((List (List UInt8 × Int)) × List UInt8 × Int) ⊕ (Unit ⊕ (Int × Bool))) := fun (l0, name1, i6) =>
  if decide (i6 < (l0.length : Int)) = true then
    if 0 ≤ i6 ∧ i6 < (l0.length : Int) then
      if (((l0.getD i6.toNat ([], 0)).1) == name1) = true then
        if 0 ≤ i6 ∧ i6 < (l0.length : Int) then
          some (.inr (.inr ((((l0.getD i6.toNat ([], 0)).2, true)))))
        else none
      else
        some (.inl ((l0, name1, IntKind.i64.wrap (i6 + 1))))
    else none
  else
    some (.inr (.inl ()))

noncomputable def wainwrightref07_Find : ((List (List UInt8 × Int)) × List UInt8) → Option (Int × Bool) := fun (l0, name1) =>
  (wainwrightref06_Right name1).bind fun r8 =>
    if (!r8) = true then
      some (((0, false)))
    else
      (loopO wainwrightref07_Find.l1 ((l0, name1, 0))).bind fun d => match d with
      | .inl _ =>
        some (((0, false)))
      | .inr ((t4, t5)) =>
        some (((t4, t5)))

def wainwrightref07_Find.ins : Spec := ⟨28, 0, [], [0, 1], (.cons (.v (.sl (.st (.pair .str I)))) (.cons (.v .str) .nil))⟩
def wainwrightref07_Find.outs : List Spec := [⟨28, 0, [], [4, 5], (.cons (.v I) (.cons (.v .bool) .nil))⟩]
noncomputable def wainwrightref07_Find.c : Callee' := ⟨16, mkFits wainwrightref07_Find.ins wainwrightref07_Find.outs, mkFun wainwrightref07_Find.ins wainwrightref07_Find.outs wainwrightref07_Find⟩
theorem wainwrightref07_Find.quiet : FunQuiet wainwrightref07_Find.c.F := mkFun_quiet rfl rfl
noncomputable def wainwrightref07_Find.ann : Ann :=
  (.seq (.reg []) (.seq (.seq (.reg [.std, .callq [wainwrightref06_Right.c]]) (.cond (.seq (.reg []) .std) .std)) (.seq (.seq (.reg []) (.block (.loop ⟨28, 0, [], [0, 1, 6], (.cons (.v (.sl (.st (.pair .str I)))) (.cons (.v .str) (.cons (.v I) .nil)))⟩ [(.exit 0, ⟨28, 0, [], [], .nil⟩), (.ret, ⟨28, 0, [], [4, 5], (.cons (.v I) (.cons (.v .bool) .nil))⟩)]
  (.seq (.seq (.reg []) (.cond .std .std)) (.seq (.block (.seq (.reg []) (.cond (.seq (.reg []) .std) .std))) (.reg [])))))) (.seq (.reg []) .std))))
noncomputable def wainwrightref07_Find.code : Code := match Tryd.f16.body with | some c => c | none => .skip
theorem wainwrightref07_Find.eq : absFn tt 28 wainwrightref07_Find.ins wainwrightref07_Find.outs wainwrightref07_Find.code wainwrightref07_Find.ann = wainwrightref07_Find := by
  funext a
  kernel_rfl
theorem wainwrightref07_Find.ok : wainwrightref07_Find.ann.ok Tryd.prog 0 28 :=
  ann_ok (by kernel_rfl) (by kernel_rfl) (show ∀ c ∈ ([wainwrightref06_Right.c] : List Callee'), c.ok Tryd.prog from cs_cons wainwrightref06_Right.sound cs_nil)
    (show ∀ c ∈ ([wainwrightref06_Right.c] : List Callee'), FunQuiet c.F from cs_cons wainwrightref06_Right.quiet cs_nil)
theorem wainwrightref07_Find.sound : wainwrightref07_Find.c.ok Tryd.prog := by
  refine ⟨?_, Tryd.f16, wainwrightref07_Find.code, Tryd.func16, rfl, by decide⟩
  have h := fn_sound tt_ok mix_ok (x := wainwrightref07_Find.ann) (ins := wainwrightref07_Find.ins) (outs := wainwrightref07_Find.outs) (N := 28) Tryd.func16 (c := wainwrightref07_Find.code) rfl rfl (by kernel_rfl) (by kernel_rfl) wainwrightref07_Find.ok (by decide)
  rw [wainwrightref07_Find.eq] at h
  exact h

/-! ### wainwright/wainwrightref07.Of: function 22 -/
noncomputable def wainwrightref07_Of.l1 : (List (List UInt8 × Int)) → Option ((List (List UInt8 × Int)) ⊕ (List (List UInt8 × Int))) := fun out3 =>
  if (Int.tmod (out3.length : Int) 8 != 0) = true then
    if roomOk (out3.length + (([([], 0)] : List (List UInt8 × Int))).length) 24 then
      some (.inl (out3 ++ (([([], 0)] : List (List UInt8 × Int)))))
    else none
  else
    some (.inr out3)

noncomputable def wainwrightref07_Of : (List (List UInt8 × Int)) → Option (List (List UInt8 × Int)) := fun l0 =>
  if roomOk ((([] : List (List UInt8 × Int))).length + l0.length) 24 then
    (loopO wainwrightref07_Of.l1 ((([] : List (List UInt8 × Int))) ++ l0)).bind fun out3 =>
      some out3
  else none

def wainwrightref07_Of.ins : Spec := ⟨15, 0, [], [0], (.cons (.v (.sl (.st (.pair .str I)))) .nil)⟩
def wainwrightref07_Of.outs : List Spec := [⟨15, 0, [], [2], (.cons (.v (.sl (.st (.pair .str I)))) .nil)⟩]
noncomputable def wainwrightref07_Of.c : Callee' := ⟨22, mkFits wainwrightref07_Of.ins wainwrightref07_Of.outs, mkFun wainwrightref07_Of.ins wainwrightref07_Of.outs wainwrightref07_Of⟩
theorem wainwrightref07_Of.quiet : FunQuiet wainwrightref07_Of.c.F := mkFun_quiet rfl rfl
noncomputable def wainwrightref07_Of.ann : Ann :=
  (.seq (.reg []) (.seq (.reg [.std, .obj (.st (.pair .str I))]) (.seq (.block (.loop ⟨15, 0, [.arr (.st (.pair .str I))], [3], (.cons (.ref 0) .nil)⟩ [(.exit 0, ⟨15, 0, [.arr (.st (.pair .str I))], [3], (.cons (.ref 0) .nil)⟩)]
  (.seq (.seq (.reg []) (.cond .std .std)) (.block (.reg [.std, .std, .inl (.st (.pair .str I)), .obj (.st (.pair .str I))]))))) (.seq (.reg []) .std))))
noncomputable def wainwrightref07_Of.code : Code := match Tryd.f22.body with | some c => c | none => .skip
theorem wainwrightref07_Of.eq : absFn tt 15 wainwrightref07_Of.ins wainwrightref07_Of.outs wainwrightref07_Of.code wainwrightref07_Of.ann = wainwrightref07_Of := by
  funext a
  kernel_rfl
theorem wainwrightref07_Of.ok : wainwrightref07_Of.ann.ok Tryd.prog 0 15 :=
  ann_ok (by kernel_rfl) (by kernel_rfl) (show ∀ c ∈ ([] : List Callee'), c.ok Tryd.prog from cs_nil)
    (show ∀ c ∈ ([] : List Callee'), FunQuiet c.F from cs_nil)
theorem wainwrightref07_Of.sound : wainwrightref07_Of.c.ok Tryd.prog := by
  refine ⟨?_, Tryd.f22, wainwrightref07_Of.code, Tryd.func22, rfl, by decide⟩
  have h := fn_sound tt_ok mix_ok (x := wainwrightref07_Of.ann) (ins := wainwrightref07_Of.ins) (outs := wainwrightref07_Of.outs) (N := 15) Tryd.func22 (c := wainwrightref07_Of.code) rfl rfl (by kernel_rfl) (by kernel_rfl) wainwrightref07_Of.ok (by decide)
  rw [wainwrightref07_Of.eq] at h
  exact h

/-! ### wainwright/wainwrightref07.Add: function 11 -/
noncomputable def wainwrightref07_Add.l1 : ((List (List UInt8 × Int)) × List UInt8 × Int × Int) → Option (((List (List UInt8 × Int)) × List UInt8 × Int × Int) ⊕ (((List (List UInt8 × Int)) × List UInt8 × Int) ⊕ ((List (List UInt8 × Int)) × Int))) := fun (out10, name1, n2, i11) =>
  if decide (i11 < (out10.length : Int)) = true then
    if 0 ≤ i11 ∧ i11 < (out10.length : Int) then
      if ((out10.getD i11.toNat ([], 0)).2 == 0) = true then
        if 0 ≤ i11 ∧ i11 < (out10.length : Int) then
          some (.inr (.inr (((out10.set i11.toNat ((name1, n2)), 0)))))
        else none
      else
        some (.inl ((out10, name1, n2, IntKind.i64.wrap (i11 + 1))))
    else none
  else
    some (.inr (.inl ((out10, name1, n2))))

noncomputable def wainwrightref07_Add : ((List (List UInt8 × Int)) × List UInt8 × Int) → Option ((List (List UInt8 × Int)) × Int) := fun (l0, name1, n2) =>
  (wainwrightref07_Right l0).bind fun r13 =>
    if (!r13) = false then
      (wainwrightref07_node n2).bind fun r17 =>
        if (!r17) = true then
          some (((([] : List (List UInt8 × Int)), 1)))
        else
          (wainwrightref06_Right name1).bind fun r21 =>
            if (!r21) = true then
              some (((([] : List (List UInt8 × Int)), 4)))
            else
              (wainwrightref07_Find (l0, name1)).bind fun (r26, r26_2) =>
                if r26_2 = true then
                  some (((([] : List (List UInt8 × Int)), 6)))
                else
                  (wainwrightref07_Live l0).bind fun r31 =>
                    if decide ((r31.length : Int) ≥ 160) = true then
                      some (((([] : List (List UInt8 × Int)), 12)))
                    else
                      if roomOk ((([] : List (List UInt8 × Int))).length + l0.length) 24 then
                        (loopO wainwrightref07_Add.l1 (((([] : List (List UInt8 × Int))) ++ l0, name1, n2, 0))).bind fun d => match d with
                        | .inl (out10, name1, n2) =>
                          if roomOk (out10.length + (([(name1, n2)] : List (List UInt8 × Int))).length) 24 then
                            (wainwrightref07_Of (out10 ++ (([(name1, n2)] : List (List UInt8 × Int))))).bind fun r61 =>
                              some (((r61, 0)))
                          else none
                        | .inr ((t6, t7)) =>
                          some (((t6, t7)))
                      else none
    else
      some (((([] : List (List UInt8 × Int)), 1)))

def wainwrightref07_Add.ins : Spec := ⟨62, 0, [], [0, 1, 2], (.cons (.v (.sl (.st (.pair .str I)))) (.cons (.v .str) (.cons (.v I) .nil)))⟩
def wainwrightref07_Add.outs : List Spec := [⟨62, 0, [], [6, 7], (.cons (.v (.sl (.st (.pair .str I)))) (.cons (.v I) .nil))⟩]
noncomputable def wainwrightref07_Add.c : Callee' := ⟨11, mkFits wainwrightref07_Add.ins wainwrightref07_Add.outs, mkFun wainwrightref07_Add.ins wainwrightref07_Add.outs wainwrightref07_Add⟩
theorem wainwrightref07_Add.quiet : FunQuiet wainwrightref07_Add.c.F := mkFun_quiet rfl rfl
noncomputable def wainwrightref07_Add.ann : Ann :=
  (.seq (.reg []) (.seq (.seq (.reg [.std, .callq [wainwrightref07_Right.c], .std, .std, .std, .callq [wainwrightref07_node.c]]) (.cond (.seq (.reg []) .std) .std)) (.seq (.seq (.reg [.std, .callq [wainwrightref06_Right.c]]) (.cond (.seq (.reg []) .std) .std)) (.seq (.reg [.std, .std, .callq [wainwrightref07_Find.c]]) (.seq (.seq (.reg []) (.cond (.seq (.reg []) .std) .std)) (.seq (.seq (.reg [.std, .callq [wainwrightref07_Live.c]]) (.cond (.seq (.reg []) .std) .std)) (.seq (.reg [.std, .obj (.st (.pair .str I))]) (.seq (.seq (.reg []) (.block (.loop ⟨62, 0, [.arr (.st (.pair .str I))], [1, 2, 10, 11], (.cons (.v .str) (.cons (.v I) (.cons (.ref 0) (.cons (.v I) .nil))))⟩ [(.exit 0, ⟨62, 0, [.arr (.st (.pair .str I))], [1, 2, 10], (.cons (.v .str) (.cons (.v I) (.cons (.ref 0) .nil)))⟩), (.ret, ⟨62, 0, [.arr (.st (.pair .str I))], [6, 7], (.cons (.ref 0) (.cons (.v I) .nil))⟩)]
  (.seq (.seq (.reg []) (.cond .std .std)) (.seq (.block (.seq (.reg []) (.cond (.seq (.reg []) (.seq (.reg []) .std)) .std))) (.reg [])))))) (.seq (.reg [.std, .std, .std, .std, .inl (.st (.pair .str I)), .obj (.st (.pair .str I)), .frz [1] (.callq [wainwrightref07_Of.c])]) .std)))))))))
noncomputable def wainwrightref07_Add.code : Code := match Tryd.f11.body with | some c => c | none => .skip
theorem wainwrightref07_Add.eq : absFn tt 62 wainwrightref07_Add.ins wainwrightref07_Add.outs wainwrightref07_Add.code wainwrightref07_Add.ann = wainwrightref07_Add := by
  funext a
  kernel_rfl
theorem wainwrightref07_Add.ok : wainwrightref07_Add.ann.ok Tryd.prog 0 62 :=
  ann_ok (by kernel_rfl) (by kernel_rfl) (show ∀ c ∈ ([wainwrightref07_Right.c, wainwrightref07_node.c, wainwrightref06_Right.c, wainwrightref07_Find.c, wainwrightref07_Live.c, wainwrightref07_Of.c] : List Callee'), c.ok Tryd.prog from cs_cons wainwrightref07_Right.sound (cs_cons wainwrightref07_node.sound (cs_cons wainwrightref06_Right.sound (cs_cons wainwrightref07_Find.sound (cs_cons wainwrightref07_Live.sound (cs_cons wainwrightref07_Of.sound cs_nil))))))
    (show ∀ c ∈ ([wainwrightref07_Right.c, wainwrightref07_node.c, wainwrightref06_Right.c, wainwrightref07_Find.c, wainwrightref07_Live.c, wainwrightref07_Of.c] : List Callee'), FunQuiet c.F from cs_cons wainwrightref07_Right.quiet (cs_cons wainwrightref07_node.quiet (cs_cons wainwrightref06_Right.quiet (cs_cons wainwrightref07_Find.quiet (cs_cons wainwrightref07_Live.quiet (cs_cons wainwrightref07_Of.quiet cs_nil))))))
theorem wainwrightref07_Add.sound : wainwrightref07_Add.c.ok Tryd.prog := by
  refine ⟨?_, Tryd.f11, wainwrightref07_Add.code, Tryd.func11, rfl, by decide⟩
  have h := fn_sound tt_ok mix_ok (x := wainwrightref07_Add.ann) (ins := wainwrightref07_Add.ins) (outs := wainwrightref07_Add.outs) (N := 62) Tryd.func11 (c := wainwrightref07_Add.code) rfl rfl (by kernel_rfl) (by kernel_rfl) wainwrightref07_Add.ok (by decide)
  rw [wainwrightref07_Add.eq] at h
  exact h

/-! ### wainwright/wainwrightref07.Drop: function 13 -/
noncomputable def wainwrightref07_Drop.l1 : ((List (List UInt8 × Int)) × List UInt8 × Int × Int) → Option (((List (List UInt8 × Int)) × List UInt8 × Int × Int) ⊕ ((List (List UInt8 × Int)) × Int)) := fun (out9, name1, n7, i10) =>
  if decide (i10 < (out9.length : Int)) = true then
    if 0 ≤ i10 ∧ i10 < (out9.length : Int) then
      if (((out9.getD i10.toNat ([], 0)).1) == name1) = true then
        if 0 ≤ i10 ∧ i10 < (out9.length : Int) then
          some (.inl ((out9.set i10.toNat (([], 0)), name1, n7, IntKind.i64.wrap (i10 + 1))))
        else none
      else
        some (.inl ((out9, name1, n7, IntKind.i64.wrap (i10 + 1))))
    else none
  else
    some (.inr (((out9, n7))))

noncomputable def wainwrightref07_Drop : ((List (List UInt8 × Int)) × List UInt8) → Option ((List (List UInt8 × Int)) × Int × Int) := fun (l0, name1) =>
  (wainwrightref07_Right l0).bind fun r12 =>
    if (!r12) = true then
      some (((([] : List (List UInt8 × Int)), 0, 1)))
    else
      (wainwrightref07_Find (l0, name1)).bind fun (r17, r17_2) =>
        if (!r17_2) = true then
          some (((([] : List (List UInt8 × Int)), 0, 5)))
        else
          if roomOk ((([] : List (List UInt8 × Int))).length + l0.length) 24 then
            (loopO wainwrightref07_Drop.l1 (((([] : List (List UInt8 × Int))) ++ l0, name1, r17, 0))).bind fun (out9, n7) =>
              some (((out9, n7, 0)))
          else none

def wainwrightref07_Drop.ins : Spec := ⟨43, 0, [], [0, 1], (.cons (.v (.sl (.st (.pair .str I)))) (.cons (.v .str) .nil))⟩
def wainwrightref07_Drop.outs : List Spec := [⟨43, 0, [], [4, 5, 6], (.cons (.v (.sl (.st (.pair .str I)))) (.cons (.v I) (.cons (.v I) .nil)))⟩]
noncomputable def wainwrightref07_Drop.c : Callee' := ⟨13, mkFits wainwrightref07_Drop.ins wainwrightref07_Drop.outs, mkFun wainwrightref07_Drop.ins wainwrightref07_Drop.outs wainwrightref07_Drop⟩
theorem wainwrightref07_Drop.quiet : FunQuiet wainwrightref07_Drop.c.F := mkFun_quiet rfl rfl
noncomputable def wainwrightref07_Drop.ann : Ann :=
  (.seq (.reg []) (.seq (.seq (.reg [.std, .callq [wainwrightref07_Right.c]]) (.cond (.seq (.reg []) .std) .std)) (.seq (.reg [.std, .std, .callq [wainwrightref07_Find.c]]) (.seq (.seq (.reg []) (.cond (.seq (.reg []) .std) .std)) (.seq (.reg [.std, .obj (.st (.pair .str I))]) (.seq (.seq (.reg []) (.block (.loop ⟨43, 0, [.arr (.st (.pair .str I))], [1, 7, 9, 10], (.cons (.v .str) (.cons (.v I) (.cons (.ref 0) (.cons (.v I) .nil))))⟩ [(.exit 0, ⟨43, 0, [.arr (.st (.pair .str I))], [7, 9], (.cons (.v I) (.cons (.ref 0) .nil))⟩)]
  (.seq (.seq (.reg []) (.cond .std .std)) (.seq (.block (.seq (.reg []) (.cond (.reg []) .std))) (.reg [])))))) (.seq (.reg []) .std)))))))
noncomputable def wainwrightref07_Drop.code : Code := match Tryd.f13.body with | some c => c | none => .skip
theorem wainwrightref07_Drop.eq : absFn tt 43 wainwrightref07_Drop.ins wainwrightref07_Drop.outs wainwrightref07_Drop.code wainwrightref07_Drop.ann = wainwrightref07_Drop := by
  funext a
  kernel_rfl
theorem wainwrightref07_Drop.ok : wainwrightref07_Drop.ann.ok Tryd.prog 0 43 :=
  ann_ok (by kernel_rfl) (by kernel_rfl) (show ∀ c ∈ ([wainwrightref07_Right.c, wainwrightref07_Find.c] : List Callee'), c.ok Tryd.prog from cs_cons wainwrightref07_Right.sound (cs_cons wainwrightref07_Find.sound cs_nil))
    (show ∀ c ∈ ([wainwrightref07_Right.c, wainwrightref07_Find.c] : List Callee'), FunQuiet c.F from cs_cons wainwrightref07_Right.quiet (cs_cons wainwrightref07_Find.quiet cs_nil))
theorem wainwrightref07_Drop.sound : wainwrightref07_Drop.c.ok Tryd.prog := by
  refine ⟨?_, Tryd.f13, wainwrightref07_Drop.code, Tryd.func13, rfl, by decide⟩
  have h := fn_sound tt_ok mix_ok (x := wainwrightref07_Drop.ann) (ins := wainwrightref07_Drop.ins) (outs := wainwrightref07_Drop.outs) (N := 43) Tryd.func13 (c := wainwrightref07_Drop.code) rfl rfl (by kernel_rfl) (by kernel_rfl) wainwrightref07_Drop.ok (by decide)
  rw [wainwrightref07_Drop.eq] at h
  exact h

/-! ### wainwright/wainwrightref07.Same: function 14 -/
noncomputable def wainwrightref07_Same.l1 : ((List (List UInt8 × Int)) × (List (List UInt8 × Int)) × Int) → Option (((List (List UInt8 × Int)) × (List (List UInt8 × Int)) × Int) ⊕ (Unit ⊕ Bool)) := fun (a0, b1, i5) =>
  if decide (i5 < (a0.length : Int)) = true then
    if 0 ≤ i5 ∧ i5 < (a0.length : Int) then
      if 0 ≤ i5 ∧ i5 < (b1.length : Int) then
        if (!((((a0.getD i5.toNat ([], 0)).1) == ((b1.getD i5.toNat ([], 0)).1)) && ((a0.getD i5.toNat ([], 0)).2 == (b1.getD i5.toNat ([], 0)).2))) = true then
          some (.inr (.inr false))
        else
          some (.inl ((a0, b1, IntKind.i64.wrap (i5 + 1))))
      else none
    else none
  else
    some (.inr (.inl ()))

noncomputable def wainwrightref07_Same : ((List (List UInt8 × Int)) × List (List UInt8 × Int)) → Option (Bool) := fun (a0, b1) =>
  if ((a0.length : Int) != (b1.length : Int)) = true then
    some false
  else
    (loopO wainwrightref07_Same.l1 ((a0, b1, 0))).bind fun d => match d with
    | .inl _ =>
      some true
    | .inr t4 =>
      some t4

def wainwrightref07_Same.ins : Spec := ⟨26, 0, [], [0, 1], (.cons (.v (.sl (.st (.pair .str I)))) (.cons (.v (.sl (.st (.pair .str I)))) .nil))⟩
def wainwrightref07_Same.outs : List Spec := [⟨26, 0, [], [4], (.cons (.v .bool) .nil)⟩]
noncomputable def wainwrightref07_Same.c : Callee' := ⟨14, mkFits wainwrightref07_Same.ins wainwrightref07_Same.outs, mkFun wainwrightref07_Same.ins wainwrightref07_Same.outs wainwrightref07_Same⟩
theorem wainwrightref07_Same.quiet : FunQuiet wainwrightref07_Same.c.F := mkFun_quiet rfl rfl
noncomputable def wainwrightref07_Same.ann : Ann :=
  (.seq (.reg []) (.seq (.seq (.reg []) (.cond (.seq (.reg []) .std) .std)) (.seq (.seq (.reg []) (.block (.loop ⟨26, 0, [], [0, 1, 5], (.cons (.v (.sl (.st (.pair .str I)))) (.cons (.v (.sl (.st (.pair .str I)))) (.cons (.v I) .nil)))⟩ [(.exit 0, ⟨26, 0, [], [], .nil⟩), (.ret, ⟨26, 0, [], [4], (.cons (.v .bool) .nil)⟩)]
  (.seq (.seq (.reg []) (.cond .std .std)) (.seq (.block (.seq (.drw [.std, .std, .std, .std, .std, .std, .std, .std, .eqs 33]) (.cond (.seq (.reg []) .std) .std))) (.reg [])))))) (.seq (.reg []) .std))))
noncomputable def wainwrightref07_Same.code : Code := match Tryd.f14.body with | some c => c | none => .skip
theorem wainwrightref07_Same.eq : absFn tt 26 wainwrightref07_Same.ins wainwrightref07_Same.outs wainwrightref07_Same.code wainwrightref07_Same.ann = wainwrightref07_Same := by
  funext a
  kernel_rfl
theorem wainwrightref07_Same.ok : wainwrightref07_Same.ann.ok Tryd.prog 0 26 :=
  ann_ok (by kernel_rfl) (by kernel_rfl) (show ∀ c ∈ ([] : List Callee'), c.ok Tryd.prog from cs_nil)
    (show ∀ c ∈ ([] : List Callee'), FunQuiet c.F from cs_nil)
theorem wainwrightref07_Same.sound : wainwrightref07_Same.c.ok Tryd.prog := by
  refine ⟨?_, Tryd.f14, wainwrightref07_Same.code, Tryd.func14, rfl, by decide⟩
  have h := fn_sound tt_ok mix_ok (x := wainwrightref07_Same.ann) (ins := wainwrightref07_Same.ins) (outs := wainwrightref07_Same.outs) (N := 26) Tryd.func14 (c := wainwrightref07_Same.code) rfl rfl (by kernel_rfl) (by kernel_rfl) wainwrightref07_Same.ok (by decide)
  rw [wainwrightref07_Same.eq] at h
  exact h

/-! ### wainwright/wainwrightlaw07.RollsChange: function 3 -/
noncomputable def wainwrightlaw07_RollsChange : ((List (List UInt8 × Int)) × List UInt8 × Int) → Option (Bool) := fun (l0, name1, node2) =>
  (wainwrightlaw07_lives ()).bind fun r17 =>
    if (!r17) = true then
      some false
    else
      (wainwrightlaw07_early l0).bind fun r20 =>
        (rolls_Add (r20, name1, node2)).bind fun (r25, r25_2) =>
          (wainwrightref07_Add (r20, name1, node2)).bind fun (r32, r32_2) =>
            (rolls_Drop (r20, name1)).bind fun (r38, r38_2, r38_3) =>
              (wainwrightref07_Drop (r20, name1)).bind fun (r45, r45_2, r45_3) =>
                if (r25_2 == r32_2) = true then
                  (wainwrightref07_Same (r25, r32)).bind fun r55 =>
                    if r55 = true then
                      if (r38_3 == r45_3) = true then
                        if (r38_2 == r45_2) = true then
                          (wainwrightref07_Same (r38, r45)).bind fun r70 =>
                            some r70
                        else
                          some false
                      else
                        some false
                    else
                      some false
                else
                  some false

def wainwrightlaw07_RollsChange.ins : Spec := ⟨72, 0, [], [0, 1, 2], (.cons (.v (.sl (.st (.pair .str I)))) (.cons (.v .str) (.cons (.v I) .nil)))⟩
def wainwrightlaw07_RollsChange.outs : List Spec := [⟨72, 0, [], [6], (.cons (.v .bool) .nil)⟩]
noncomputable def wainwrightlaw07_RollsChange.c : Callee' := ⟨3, mkFits wainwrightlaw07_RollsChange.ins wainwrightlaw07_RollsChange.outs, mkFun wainwrightlaw07_RollsChange.ins wainwrightlaw07_RollsChange.outs wainwrightlaw07_RollsChange⟩
theorem wainwrightlaw07_RollsChange.quiet : FunQuiet wainwrightlaw07_RollsChange.c.F := mkFun_quiet rfl rfl
noncomputable def wainwrightlaw07_RollsChange.ann : Ann :=
  (.seq (.reg []) (.seq (.seq (.reg [.callq [wainwrightlaw07_lives.c]]) (.cond (.seq (.reg []) .std) .std)) (.seq (.reg [.std, .callq [wainwrightlaw07_early.c]]) (.seq (.reg [.std, .std, .std, .callq [rolls_Add.c]]) (.seq (.reg [.std, .std, .std, .callq [wainwrightref07_Add.c]]) (.seq (.reg [.std, .std, .callq [rolls_Drop.c]]) (.seq (.reg [.std, .std, .callq [wainwrightref07_Drop.c]]) (.seq (.reg [.std, .std, .std, .std, .std, .std, .callq [wainwrightref07_Same.c], .std, .std, .std, .std, .std, .std, .std, .std, .std, .std, .std, .std, .std, .std, .callq [wainwrightref07_Same.c]]) .std))))))))
noncomputable def wainwrightlaw07_RollsChange.code : Code := match Tryd.f3.body with | some c => c | none => .skip
theorem wainwrightlaw07_RollsChange.eq : absFn tt 72 wainwrightlaw07_RollsChange.ins wainwrightlaw07_RollsChange.outs wainwrightlaw07_RollsChange.code wainwrightlaw07_RollsChange.ann = wainwrightlaw07_RollsChange := by
  funext a
  kernel_rfl
theorem wainwrightlaw07_RollsChange.ok : wainwrightlaw07_RollsChange.ann.ok Tryd.prog 0 72 :=
  ann_ok (by kernel_rfl) (by kernel_rfl) (show ∀ c ∈ ([wainwrightlaw07_lives.c, wainwrightlaw07_early.c, rolls_Add.c, wainwrightref07_Add.c, rolls_Drop.c, wainwrightref07_Drop.c, wainwrightref07_Same.c, wainwrightref07_Same.c] : List Callee'), c.ok Tryd.prog from cs_cons wainwrightlaw07_lives.sound (cs_cons wainwrightlaw07_early.sound (cs_cons rolls_Add.sound (cs_cons wainwrightref07_Add.sound (cs_cons rolls_Drop.sound (cs_cons wainwrightref07_Drop.sound (cs_cons wainwrightref07_Same.sound (cs_cons wainwrightref07_Same.sound cs_nil))))))))
    (show ∀ c ∈ ([wainwrightlaw07_lives.c, wainwrightlaw07_early.c, rolls_Add.c, wainwrightref07_Add.c, rolls_Drop.c, wainwrightref07_Drop.c, wainwrightref07_Same.c, wainwrightref07_Same.c] : List Callee'), FunQuiet c.F from cs_cons wainwrightlaw07_lives.quiet (cs_cons wainwrightlaw07_early.quiet (cs_cons rolls_Add.quiet (cs_cons wainwrightref07_Add.quiet (cs_cons rolls_Drop.quiet (cs_cons wainwrightref07_Drop.quiet (cs_cons wainwrightref07_Same.quiet (cs_cons wainwrightref07_Same.quiet cs_nil))))))))
theorem wainwrightlaw07_RollsChange.sound : wainwrightlaw07_RollsChange.c.ok Tryd.prog := by
  refine ⟨?_, Tryd.f3, wainwrightlaw07_RollsChange.code, Tryd.func3, rfl, by decide⟩
  have h := fn_sound tt_ok mix_ok (x := wainwrightlaw07_RollsChange.ann) (ins := wainwrightlaw07_RollsChange.ins) (outs := wainwrightlaw07_RollsChange.outs) (N := 72) Tryd.func3 (c := wainwrightlaw07_RollsChange.code) rfl rfl (by kernel_rfl) (by kernel_rfl) wainwrightlaw07_RollsChange.ok (by decide)
  rw [wainwrightlaw07_RollsChange.eq] at h
  exact h

/-! ### wainwright/wainwrightlaw07.RollsStay: function 4 -/
noncomputable def wainwrightlaw07_RollsStay.l1 : ((List (List UInt8 × Int)) × List UInt8 × (List (List UInt8 × Int)) × Int × (List (List UInt8 × Int)) × Int × Int) → Option (((List (List UInt8 × Int)) × List UInt8 × (List (List UInt8 × Int)) × Int × (List (List UInt8 × Int)) × Int × Int) ⊕ (((List (List UInt8 × Int)) × (List (List UInt8 × Int)) × Int × (List (List UInt8 × Int)) × Int) ⊕ Bool)) := fun (l0, name1, a7, e8, b9, f11, i12) =>
  if decide (i12 < (l0.length : Int)) = true then
    ((
      if (e8 == 0) = true then
        if 0 ≤ i12 ∧ i12 < (a7.length : Int) then
          if 0 ≤ i12 ∧ i12 < (l0.length : Int) then
            if (!((((a7.getD i12.toNat ([], 0)).1) == ((l0.getD i12.toNat ([], 0)).1)) && ((a7.getD i12.toNat ([], 0)).2 == (l0.getD i12.toNat ([], 0)).2))) = true then
              if 0 ≤ i12 ∧ i12 < (l0.length : Int) then
                if ((l0.getD i12.toNat ([], 0)).2 != 0) = false then
                  if 0 ≤ i12 ∧ i12 < (a7.length : Int) then
                    if (!(((a7.getD i12.toNat ([], 0)).1) == name1)) = true then
                      some (.inr false)
                    else
                      some (.inl ((l0, name1, a7, e8, b9, f11, i12)))
                  else none
                else
                  some (.inr false)
              else none
            else
              some (.inl ((l0, name1, a7, e8, b9, f11, i12)))
          else none
        else none
      else
        some (.inl ((l0, name1, a7, e8, b9, f11, i12)))) : Option (((List (List UInt8 × Int)) × List UInt8 × (List (List UInt8 × Int)) × Int × (List (List UInt8 × Int)) × Int × Int) ⊕ Bool)).bind fun d => match d with
    | .inl (l0, name1, a7, e8, b9, f11, i12) =>
      if (f11 == 0) = true then
        if 0 ≤ i12 ∧ i12 < (b9.length : Int) then
          if 0 ≤ i12 ∧ i12 < (l0.length : Int) then
            if (!((((b9.getD i12.toNat ([], 0)).1) == ((l0.getD i12.toNat ([], 0)).1)) && ((b9.getD i12.toNat ([], 0)).2 == (l0.getD i12.toNat ([], 0)).2))) = true then
              if 0 ≤ i12 ∧ i12 < (l0.length : Int) then
                if (!(((l0.getD i12.toNat ([], 0)).1) == name1)) = false then
                  if 0 ≤ i12 ∧ i12 < (b9.length : Int) then
                    if ((b9.getD i12.toNat ([], 0)).2 != 0) = true then
                      some (.inr (.inr false))
                    else
                      some (.inl ((l0, name1, a7, e8, b9, f11, IntKind.i64.wrap (i12 + 1))))
                  else none
                else
                  some (.inr (.inr false))
              else none
            else
              some (.inl ((l0, name1, a7, e8, b9, f11, IntKind.i64.wrap (i12 + 1))))
          else none
        else none
      else
        some (.inl ((l0, name1, a7, e8, b9, f11, IntKind.i64.wrap (i12 + 1))))
    | .inr t6 =>
      some (.inr (.inr t6))
  else
    some (.inr (.inl ((l0, a7, e8, b9, f11))))

noncomputable def wainwrightlaw07_RollsStay : ((List (List UInt8 × Int)) × List UInt8 × Int) → Option (Bool) := fun (l0, name1, node2) =>
  (wainwrightlaw07_lives ()).bind fun r13 =>
    if (!r13) = true then
      some false
    else
      (wainwrightlaw07_early l0).bind fun r16 =>
        (rolls_Add (r16, name1, node2)).bind fun (r21, r21_2) =>
          (rolls_Drop (r16, name1)).bind fun (r27, r27_2, r27_3) =>
            (loopO wainwrightlaw07_RollsStay.l1 ((r16, name1, r21, r21_2, r27, r27_3, 0))).bind fun d => match d with
            | .inl (l0, a7, e8, b9, f11) =>
              if (e8 != 0) = false then
                if decide ((a7.length : Int) ≥ (l0.length : Int)) = true then
                  if decide ((a7.length : Int) ≤ IntKind.i64.wrap ((l0.length : Int) + 8)) = true then
                    if (f11 != 0) = false then
                      some ((((b9.length : Int) == (l0.length : Int))))
                    else
                      some true
                  else
                    some false
                else
                  some false
              else
                if (f11 != 0) = false then
                  some ((((b9.length : Int) == (l0.length : Int))))
                else
                  some true
            | .inr t6 =>
              some t6

def wainwrightlaw07_RollsStay.ins : Spec := ⟨125, 0, [], [0, 1, 2], (.cons (.v (.sl (.st (.pair .str I)))) (.cons (.v .str) (.cons (.v I) .nil)))⟩
def wainwrightlaw07_RollsStay.outs : List Spec := [⟨125, 0, [], [6], (.cons (.v .bool) .nil)⟩]
noncomputable def wainwrightlaw07_RollsStay.c : Callee' := ⟨4, mkFits wainwrightlaw07_RollsStay.ins wainwrightlaw07_RollsStay.outs, mkFun wainwrightlaw07_RollsStay.ins wainwrightlaw07_RollsStay.outs wainwrightlaw07_RollsStay⟩
theorem wainwrightlaw07_RollsStay.quiet : FunQuiet wainwrightlaw07_RollsStay.c.F := mkFun_quiet rfl rfl
noncomputable def wainwrightlaw07_RollsStay.ann : Ann :=
  (.seq (.reg []) (.seq (.seq (.reg [.callq [wainwrightlaw07_lives.c]]) (.cond (.seq (.reg []) .std) .std)) (.seq (.reg [.std, .callq [wainwrightlaw07_early.c]]) (.seq (.reg [.std, .std, .std, .callq [rolls_Add.c]]) (.seq (.reg [.std, .std, .callq [rolls_Drop.c]]) (.seq (.seq (.reg []) (.block (.loop ⟨125, 0, [], [0, 1, 7, 8, 9, 11, 12], (.cons (.v (.sl (.st (.pair .str I)))) (.cons (.v .str) (.cons (.v (.sl (.st (.pair .str I)))) (.cons (.v I) (.cons (.v (.sl (.st (.pair .str I)))) (.cons (.v I) (.cons (.v I) .nil)))))))⟩ [(.exit 0, ⟨125, 0, [], [0, 7, 8, 9, 11], (.cons (.v (.sl (.st (.pair .str I)))) (.cons (.v (.sl (.st (.pair .str I)))) (.cons (.v I) (.cons (.v (.sl (.st (.pair .str I)))) (.cons (.v I) .nil)))))⟩), (.ret, ⟨125, 0, [], [6], (.cons (.v .bool) .nil)⟩)]
  (.seq (.seq (.reg []) (.cond .std .std)) (.seq (.block (.join [(.norm, ⟨125, 0, [], [0, 1, 7, 8, 9, 11, 12], (.cons (.v (.sl (.st (.pair .str I)))) (.cons (.v .str) (.cons (.v (.sl (.st (.pair .str I)))) (.cons (.v I) (.cons (.v (.sl (.st (.pair .str I)))) (.cons (.v I) (.cons (.v I) .nil)))))))⟩), (.ret, ⟨125, 0, [], [6], (.cons (.v .bool) .nil)⟩)]
  (.seq (.drw [.std, .std, .std, .std, .std, .std, .std, .std, .std, .std, .std, .eqs 33]) (.cond (.seq (.reg []) .std) .std)) (.seq (.drw [.std, .std, .std, .std, .std, .std, .std, .std, .std, .std, .std, .eqs 33]) (.cond (.seq (.reg []) .std) .std)))) (.reg [])))))) (.seq (.reg []) .std)))))))
noncomputable def wainwrightlaw07_RollsStay.code : Code := match Tryd.f4.body with | some c => c | none => .skip
theorem wainwrightlaw07_RollsStay.eq : absFn tt 125 wainwrightlaw07_RollsStay.ins wainwrightlaw07_RollsStay.outs wainwrightlaw07_RollsStay.code wainwrightlaw07_RollsStay.ann = wainwrightlaw07_RollsStay := by
  funext a
  kernel_rfl
theorem wainwrightlaw07_RollsStay.ok : wainwrightlaw07_RollsStay.ann.ok Tryd.prog 0 125 :=
  ann_ok (by kernel_rfl) (by kernel_rfl) (show ∀ c ∈ ([wainwrightlaw07_lives.c, wainwrightlaw07_early.c, rolls_Add.c, rolls_Drop.c] : List Callee'), c.ok Tryd.prog from cs_cons wainwrightlaw07_lives.sound (cs_cons wainwrightlaw07_early.sound (cs_cons rolls_Add.sound (cs_cons rolls_Drop.sound cs_nil))))
    (show ∀ c ∈ ([wainwrightlaw07_lives.c, wainwrightlaw07_early.c, rolls_Add.c, rolls_Drop.c] : List Callee'), FunQuiet c.F from cs_cons wainwrightlaw07_lives.quiet (cs_cons wainwrightlaw07_early.quiet (cs_cons rolls_Add.quiet (cs_cons rolls_Drop.quiet cs_nil))))
theorem wainwrightlaw07_RollsStay.sound : wainwrightlaw07_RollsStay.c.ok Tryd.prog := by
  refine ⟨?_, Tryd.f4, wainwrightlaw07_RollsStay.code, Tryd.func4, rfl, by decide⟩
  have h := fn_sound tt_ok mix_ok (x := wainwrightlaw07_RollsStay.ann) (ins := wainwrightlaw07_RollsStay.ins) (outs := wainwrightlaw07_RollsStay.outs) (N := 125) Tryd.func4 (c := wainwrightlaw07_RollsStay.code) rfl rfl (by kernel_rfl) (by kernel_rfl) wainwrightlaw07_RollsStay.ok (by decide)
  rw [wainwrightlaw07_RollsStay.eq] at h
  exact h

/-! ### wainwright/rolls.Find: function 15 -/
noncomputable def rolls_Find : ((List (List UInt8 × Int)) × List UInt8) → Option (Int × Bool) := fun (l0, name1) =>
  (rolls_at (l0, name1)).bind fun r9 =>
    if decide (r9 < 0) = true then
      some (((0, false)))
    else
      if 0 ≤ r9 ∧ r9 < (l0.length : Int) then
        some ((((l0.getD r9.toNat ([], 0)).2, true)))
      else none

def rolls_Find.ins : Spec := ⟨17, 0, [], [0, 1], (.cons (.v (.sl (.st (.pair .str I)))) (.cons (.v .str) .nil))⟩
def rolls_Find.outs : List Spec := [⟨17, 0, [], [4, 5], (.cons (.v I) (.cons (.v .bool) .nil))⟩]
noncomputable def rolls_Find.c : Callee' := ⟨15, mkFits rolls_Find.ins rolls_Find.outs, mkFun rolls_Find.ins rolls_Find.outs rolls_Find⟩
theorem rolls_Find.quiet : FunQuiet rolls_Find.c.F := mkFun_quiet rfl rfl
noncomputable def rolls_Find.ann : Ann :=
  (.seq (.reg []) (.seq (.reg [.std, .std, .callq [rolls_at.c]]) (.seq (.seq (.reg []) (.cond (.seq (.reg []) .std) .std)) (.seq (.reg []) .std))))
noncomputable def rolls_Find.code : Code := match Tryd.f15.body with | some c => c | none => .skip
theorem rolls_Find.eq : absFn tt 17 rolls_Find.ins rolls_Find.outs rolls_Find.code rolls_Find.ann = rolls_Find := by
  funext a
  kernel_rfl
theorem rolls_Find.ok : rolls_Find.ann.ok Tryd.prog 0 17 :=
  ann_ok (by kernel_rfl) (by kernel_rfl) (show ∀ c ∈ ([rolls_at.c] : List Callee'), c.ok Tryd.prog from cs_cons rolls_at.sound cs_nil)
    (show ∀ c ∈ ([rolls_at.c] : List Callee'), FunQuiet c.F from cs_cons rolls_at.quiet cs_nil)
theorem rolls_Find.sound : rolls_Find.c.ok Tryd.prog := by
  refine ⟨?_, Tryd.f15, rolls_Find.code, Tryd.func15, rfl, by decide⟩
  have h := fn_sound tt_ok mix_ok (x := rolls_Find.ann) (ins := rolls_Find.ins) (outs := rolls_Find.outs) (N := 17) Tryd.func15 (c := rolls_Find.code) rfl rfl (by kernel_rfl) (by kernel_rfl) rolls_Find.ok (by decide)
  rw [rolls_Find.eq] at h
  exact h

/-! ### wainwright/wainwrightlaw07.RollsTell: function 5 -/
noncomputable def wainwrightlaw07_RollsTell : ((List (List UInt8 × Int)) × List UInt8) → Option (Bool) := fun (l0, name1) =>
  (wainwrightlaw07_lives ()).bind fun r9 =>
    if (!r9) = true then
      some false
    else
      (wainwrightlaw07_early l0).bind fun r12 =>
        (rolls_Find (r12, name1)).bind fun (r16, r16_2) =>
          (wainwrightref07_Find (r12, name1)).bind fun (r22, r22_2) =>
            if (r16 == r22) = true then
              if (r16_2 == r22_2) = true then
                (rolls_Right r12).bind fun r35 =>
                  (wainwrightref07_Right r12).bind fun r37 =>
                    if (r35 == r37) = true then
                      (rolls_Live r12).bind fun r42 =>
                        (wainwrightref07_Live r12).bind fun r44 =>
                          (wainwrightref07_Same (r42, r44)).bind fun r45 =>
                            if r45 = true then
                              (rolls_Of r12).bind fun r49 =>
                                (wainwrightref07_Of r12).bind fun r51 =>
                                  (wainwrightref07_Same (r49, r51)).bind fun r52 =>
                                    some r52
                            else
                              some false
                    else
                      some false
              else
                some false
            else
              some false

def wainwrightlaw07_RollsTell.ins : Spec := ⟨54, 0, [], [0, 1], (.cons (.v (.sl (.st (.pair .str I)))) (.cons (.v .str) .nil))⟩
def wainwrightlaw07_RollsTell.outs : List Spec := [⟨54, 0, [], [4], (.cons (.v .bool) .nil)⟩]
noncomputable def wainwrightlaw07_RollsTell.c : Callee' := ⟨5, mkFits wainwrightlaw07_RollsTell.ins wainwrightlaw07_RollsTell.outs, mkFun wainwrightlaw07_RollsTell.ins wainwrightlaw07_RollsTell.outs wainwrightlaw07_RollsTell⟩
theorem wainwrightlaw07_RollsTell.quiet : FunQuiet wainwrightlaw07_RollsTell.c.F := mkFun_quiet rfl rfl
noncomputable def wainwrightlaw07_RollsTell.ann : Ann :=
  (.seq (.reg []) (.seq (.seq (.reg [.callq [wainwrightlaw07_lives.c]]) (.cond (.seq (.reg []) .std) .std)) (.seq (.reg [.std, .callq [wainwrightlaw07_early.c]]) (.seq (.reg [.std, .std, .callq [rolls_Find.c]]) (.seq (.reg [.std, .std, .callq [wainwrightref07_Find.c]]) (.seq (.reg [.std, .std, .std, .std, .std, .std, .std, .std, .std, .std, .callq [rolls_Right.c], .std, .callq [wainwrightref07_Right.c], .std, .std, .std, .std, .callq [rolls_Live.c], .std, .callq [wainwrightref07_Live.c], .callq [wainwrightref07_Same.c], .std, .std, .std, .callq [rolls_Of.c], .std, .callq [wainwrightref07_Of.c], .callq [wainwrightref07_Same.c]]) .std))))))
noncomputable def wainwrightlaw07_RollsTell.code : Code := match Tryd.f5.body with | some c => c | none => .skip
theorem wainwrightlaw07_RollsTell.eq : absFn tt 54 wainwrightlaw07_RollsTell.ins wainwrightlaw07_RollsTell.outs wainwrightlaw07_RollsTell.code wainwrightlaw07_RollsTell.ann = wainwrightlaw07_RollsTell := by
  funext a
  kernel_rfl
theorem wainwrightlaw07_RollsTell.ok : wainwrightlaw07_RollsTell.ann.ok Tryd.prog 0 54 :=
  ann_ok (by kernel_rfl) (by kernel_rfl) (show ∀ c ∈ ([wainwrightlaw07_lives.c, wainwrightlaw07_early.c, rolls_Find.c, wainwrightref07_Find.c, rolls_Right.c, wainwrightref07_Right.c, rolls_Live.c, wainwrightref07_Live.c, wainwrightref07_Same.c, rolls_Of.c, wainwrightref07_Of.c, wainwrightref07_Same.c] : List Callee'), c.ok Tryd.prog from cs_cons wainwrightlaw07_lives.sound (cs_cons wainwrightlaw07_early.sound (cs_cons rolls_Find.sound (cs_cons wainwrightref07_Find.sound (cs_cons rolls_Right.sound (cs_cons wainwrightref07_Right.sound (cs_cons rolls_Live.sound (cs_cons wainwrightref07_Live.sound (cs_cons wainwrightref07_Same.sound (cs_cons rolls_Of.sound (cs_cons wainwrightref07_Of.sound (cs_cons wainwrightref07_Same.sound cs_nil))))))))))))
    (show ∀ c ∈ ([wainwrightlaw07_lives.c, wainwrightlaw07_early.c, rolls_Find.c, wainwrightref07_Find.c, rolls_Right.c, wainwrightref07_Right.c, rolls_Live.c, wainwrightref07_Live.c, wainwrightref07_Same.c, rolls_Of.c, wainwrightref07_Of.c, wainwrightref07_Same.c] : List Callee'), FunQuiet c.F from cs_cons wainwrightlaw07_lives.quiet (cs_cons wainwrightlaw07_early.quiet (cs_cons rolls_Find.quiet (cs_cons wainwrightref07_Find.quiet (cs_cons rolls_Right.quiet (cs_cons wainwrightref07_Right.quiet (cs_cons rolls_Live.quiet (cs_cons wainwrightref07_Live.quiet (cs_cons wainwrightref07_Same.quiet (cs_cons rolls_Of.quiet (cs_cons wainwrightref07_Of.quiet (cs_cons wainwrightref07_Same.quiet cs_nil))))))))))))
theorem wainwrightlaw07_RollsTell.sound : wainwrightlaw07_RollsTell.c.ok Tryd.prog := by
  refine ⟨?_, Tryd.f5, wainwrightlaw07_RollsTell.code, Tryd.func5, rfl, by decide⟩
  have h := fn_sound tt_ok mix_ok (x := wainwrightlaw07_RollsTell.ann) (ins := wainwrightlaw07_RollsTell.ins) (outs := wainwrightlaw07_RollsTell.outs) (N := 54) Tryd.func5 (c := wainwrightlaw07_RollsTell.code) rfl rfl (by kernel_rfl) (by kernel_rfl) wainwrightlaw07_RollsTell.ok (by decide)
  rw [wainwrightlaw07_RollsTell.eq] at h
  exact h

/-! ### wainwright/wainwrightlaw07.RollsPlay: function 6 -/
noncomputable def wainwrightlaw07_RollsPlay.l2 : (((List (List UInt8 × Int)) × List UInt8 × Int) × (List (List UInt8 × Int)) × (List (List UInt8 × Int)) × Int × Int × Int) → Option ((((List (List UInt8 × Int)) × List UInt8 × Int) × (List (List UInt8 × Int)) × (List (List UInt8 × Int)) × Int × Int × Int) ⊕ (((List (List UInt8 × Int)) × List UInt8 × Int) × (List (List UInt8 × Int)) × (List (List UInt8 × Int)) × Int × Int)) := fun ((want4, x6a, x6b), script0, l3, i5, at7, k8) =>
  if decide (k8 < (want4.length : Int)) = true then
    if 0 ≤ k8 ∧ k8 < (want4.length : Int) then
      if (((want4.getD k8.toNat ([], 0)).1) == x6a) = true then
        some (.inl (((want4, x6a, x6b), script0, l3, i5, k8, IntKind.i64.wrap (k8 + 1))))
      else
        some (.inl (((want4, x6a, x6b), script0, l3, i5, at7, IntKind.i64.wrap (k8 + 1))))
    else none
  else
    some (.inr ((((want4, x6a, x6b), script0, l3, i5, at7))))

noncomputable def wainwrightlaw07_RollsPlay.l1 : ((List (List UInt8 × Int)) × (List (List UInt8 × Int)) × (List (List UInt8 × Int)) × Int) → Option (((List (List UInt8 × Int)) × (List (List UInt8 × Int)) × (List (List UInt8 × Int)) × Int) ⊕ (((List (List UInt8 × Int)) × List (List UInt8 × Int)) ⊕ Bool)) := fun (want4, script0, l3, i5) =>
  if decide (i5 < (script0.length : Int)) = true then
    if 0 ≤ i5 ∧ i5 < (script0.length : Int) then
      (loopO wainwrightlaw07_RollsPlay.l2 (((want4, (script0.getD i5.toNat ([], 0)).1, (script0.getD i5.toNat ([], 0)).2), script0, l3, i5, (-1), 0))).bind fun ((want4, x6a, x6b), script0, l3, i5, at7) =>
        if decide (x6b < 1) = true then
          (rolls_Drop (l3, x6a)).bind fun (r54, r54_2, r54_3) =>
            ((
              if (!((r54_3 == 0) == decide (at7 ≥ 0))) = false then
                if (r54_3 == 0) = true then
                  if 0 ≤ at7 ∧ at7 < (want4.length : Int) then
                    if (r54_2 != (want4.getD at7.toNat ([], 0)).2) = true then
                      some (.inr false)
                    else
                      some (.inl ((want4, script0, l3, i5, at7, r54, r54_3)))
                  else none
                else
                  some (.inl ((want4, script0, l3, i5, at7, r54, r54_3)))
              else
                some (.inr false)) : Option (((List (List UInt8 × Int)) × (List (List UInt8 × Int)) × (List (List UInt8 × Int)) × Int × Int × (List (List UInt8 × Int)) × Int) ⊕ Bool)).bind fun d => match d with
            | .inl (want4, script0, l3, i5, at7, m9, e11) =>
              if (e11 == 0) = true then
                if 0 ≤ at7 ∧ at7 ≤ (want4.length : Int) then
                  if roomOk ((([] : List (List UInt8 × Int))).length + (want4.take at7.toNat).length) 24 then
                    if 0 ≤ IntKind.i64.wrap (at7 + 1) ∧ IntKind.i64.wrap (at7 + 1) ≤ (want4.length : Int) then
                      if roomOk (((([] : List (List UInt8 × Int))) ++ (want4.take at7.toNat)).length + (want4.drop (IntKind.i64.wrap (at7 + 1)).toNat).length) 24 then
                        some (.inl ((((([] : List (List UInt8 × Int))) ++ (want4.take at7.toNat)) ++ (want4.drop (IntKind.i64.wrap (at7 + 1)).toNat), script0, m9, IntKind.i64.wrap (i5 + 1))))
                      else none
                    else none
                  else none
                else none
              else
                some (.inl ((want4, script0, l3, IntKind.i64.wrap (i5 + 1))))
            | .inr t2 =>
              some (.inr (.inr t2))
        else
          (rolls_Add (l3, x6a, x6b)).bind fun (r94, r94_2) =>
            ((
              (wainwrightref06_Right x6a).bind fun r99 =>
                if r99 = true then
                  some ((((want4, x6a, x6b), script0, l3, i5, at7, r94, r94_2, decide (x6b ≤ 65535))))
                else
                  some ((((want4, x6a, x6b), script0, l3, i5, at7, r94, r94_2, false)))) : Option (((List (List UInt8 × Int)) × List UInt8 × Int) × (List (List UInt8 × Int)) × (List (List UInt8 × Int)) × Int × Int × (List (List UInt8 × Int)) × Int × Bool)).bind fun ((want4, x6a, x6b), script0, l3, i5, at7, m12, e13, may14) =>
              ((
                if decide (at7 < 0) = true then
                  if may14 = true then
                    if (!((e13 == 0) == decide ((want4.length : Int) < 160))) = true then
                      some (.inr false)
                    else
                      some (.inl (((want4, x6a, x6b), script0, l3, i5, m12, e13)))
                  else
                    if (!((e13 == 0) == false)) = true then
                      some (.inr false)
                    else
                      some (.inl (((want4, x6a, x6b), script0, l3, i5, m12, e13)))
                else
                  if (!((e13 == 0) == false)) = true then
                    some (.inr false)
                  else
                    some (.inl (((want4, x6a, x6b), script0, l3, i5, m12, e13)))) : Option ((((List (List UInt8 × Int)) × List UInt8 × Int) × (List (List UInt8 × Int)) × (List (List UInt8 × Int)) × Int × (List (List UInt8 × Int)) × Int) ⊕ Bool)).bind fun d => match d with
              | .inl ((want4, x6a, x6b), script0, l3, i5, m12, e13) =>
                if (e13 == 0) = true then
                  if roomOk (want4.length + (([(x6a, x6b)] : List (List UInt8 × Int))).length) 24 then
                    some (.inl ((want4 ++ (([(x6a, x6b)] : List (List UInt8 × Int))), script0, m12, IntKind.i64.wrap (i5 + 1))))
                  else none
                else
                  some (.inl ((want4, script0, l3, IntKind.i64.wrap (i5 + 1))))
              | .inr t2 =>
                some (.inr (.inr t2))
    else none
  else
    some (.inr (.inl ((want4, l3))))

noncomputable def wainwrightlaw07_RollsPlay.l3 : ((List (List UInt8 × Int)) × (List (List UInt8 × Int)) × Int) → Option (((List (List UInt8 × Int)) × (List (List UInt8 × Int)) × Int) ⊕ (Unit ⊕ Bool)) := fun (want4, l3, k15) =>
  if decide (k15 < (want4.length : Int)) = true then
    if 0 ≤ k15 ∧ k15 < (want4.length : Int) then
      (rolls_Find (l3, (want4.getD k15.toNat ([], 0)).1)).bind fun (r149, r149_2) =>
        if (!r149_2) = false then
          if 0 ≤ k15 ∧ k15 < (want4.length : Int) then
            if (r149 != (want4.getD k15.toNat ([], 0)).2) = true then
              some (.inr (.inr false))
            else
              some (.inl ((want4, l3, IntKind.i64.wrap (k15 + 1))))
          else none
        else
          some (.inr (.inr false))
    else none
  else
    some (.inr (.inl ()))

noncomputable def wainwrightlaw07_RollsPlay : (List (List UInt8 × Int)) → Option (Bool) := fun script0 =>
  (wainwrightlaw07_lives ()).bind fun r18 =>
    if (!r18) = true then
      some false
    else
      (wainwrightlaw07_early script0).bind fun r21 =>
        (loopO wainwrightlaw07_RollsPlay.l1 (([], r21, ([] : List (List UInt8 × Int)), 0))).bind fun d => match d with
        | .inl (want4, l3) =>
          (rolls_Live l3).bind fun r126 =>
            if ((r126.length : Int) != (want4.length : Int)) = false then
              (rolls_Right l3).bind fun r133 =>
                if (!r133) = true then
                  some false
                else
                  (loopO wainwrightlaw07_RollsPlay.l3 ((want4, l3, 0))).bind fun d => match d with
                  | .inl _ =>
                    some true
                  | .inr t2 =>
                    some t2
            else
              some false
        | .inr t2 =>
          some t2

def wainwrightlaw07_RollsPlay.ins : Spec := ⟨163, 0, [], [0], (.cons (.v (.sl (.st (.pair .str I)))) .nil)⟩
def wainwrightlaw07_RollsPlay.outs : List Spec := [⟨163, 0, [], [2], (.cons (.v .bool) .nil)⟩]
noncomputable def wainwrightlaw07_RollsPlay.c : Callee' := ⟨6, mkFits wainwrightlaw07_RollsPlay.ins wainwrightlaw07_RollsPlay.outs, mkFun wainwrightlaw07_RollsPlay.ins wainwrightlaw07_RollsPlay.outs wainwrightlaw07_RollsPlay⟩
theorem wainwrightlaw07_RollsPlay.quiet : FunQuiet wainwrightlaw07_RollsPlay.c.F := mkFun_quiet rfl rfl
noncomputable def wainwrightlaw07_RollsPlay.ann : Ann :=
  (.seq (.reg []) (.seq (.seq (.reg [.callq [wainwrightlaw07_lives.c]]) (.cond (.seq (.reg []) .std) .std)) (.seq (.reg [.std, .callq [wainwrightlaw07_early.c]]) (.seq (.reg []) (.seq (.seq (.reg []) (.block (.loop ⟨163, 0, [.arr (.st (.pair .str I))], [0, 3, 4, 5], (.cons (.v (.sl (.st (.pair .str I)))) (.cons (.v (.sl (.st (.pair .str I)))) (.cons (.ref 0) (.cons (.v I) .nil))))⟩ [(.exit 0, ⟨163, 0, [.arr (.st (.pair .str I))], [3, 4], (.cons (.v (.sl (.st (.pair .str I)))) (.cons (.ref 0) .nil))⟩), (.ret, ⟨163, 0, [], [2], (.cons (.v .bool) .nil)⟩)]
  (.seq (.seq (.reg []) (.cond .std .std)) (.seq (.block (.seq (.reg []) (.seq (.reg []) (.seq (.seq (.reg []) (.block (.loop ⟨163, 0, [.arr (.st (.pair .str I)), .box (.cons (.v .str) (.cons (.v I) .nil))], [0, 3, 4, 5, 6, 7, 8], (.cons (.v (.sl (.st (.pair .str I)))) (.cons (.v (.sl (.st (.pair .str I)))) (.cons (.ref 0) (.cons (.v I) (.cons (.ref 1) (.cons (.v I) (.cons (.v I) .nil)))))))⟩ [(.exit 2, ⟨163, 0, [.arr (.st (.pair .str I)), .box (.cons (.v .str) (.cons (.v I) .nil))], [0, 3, 4, 5, 6, 7], (.cons (.v (.sl (.st (.pair .str I)))) (.cons (.v (.sl (.st (.pair .str I)))) (.cons (.ref 0) (.cons (.v I) (.cons (.ref 1) (.cons (.v I) .nil))))))⟩)]
  (.seq (.seq (.reg []) (.cond .std .std)) (.seq (.block (.seq (.drw []) (.cond (.reg []) .std))) (.reg [])))))) (.seq (.seq (.reg []) (.cond (.seq (.reg [.std, .std, .std, .callq [rolls_Drop.c]]) (.join [(.norm, ⟨163, 0, [.arr (.st (.pair .str I))], [0, 3, 4, 5, 7, 9, 11], (.cons (.v (.sl (.st (.pair .str I)))) (.cons (.v (.sl (.st (.pair .str I)))) (.cons (.ref 0) (.cons (.v I) (.cons (.v I) (.cons (.v (.sl (.st (.pair .str I)))) (.cons (.v I) .nil)))))))⟩), (.ret, ⟨163, 0, [], [2], (.cons (.v .bool) .nil)⟩)]
  (.seq (.reg []) (.cond (.seq (.reg []) .std) .std)) (.seq (.seq (.reg []) (.cond (.seq (.reg [.frz [0] (.std)]) (.drw [.std, .std, .inl (.int .u8), .obj (.st (.pair .str I)), .std, .std, .std, .inl (.int .u8), .obj (.st (.pair .str I))])) .std)) .std))) .std)) (.seq (.reg [.std, .std, .std, .std, .std, .callq [rolls_Add.c]]) (.join [(.norm, ⟨163, 0, [.arr (.st (.pair .str I)), .box (.cons (.v .str) (.cons (.v I) .nil))], [0, 3, 4, 5, 6, 7, 12, 13, 14], (.cons (.v (.sl (.st (.pair .str I)))) (.cons (.v (.sl (.st (.pair .str I)))) (.cons (.ref 0) (.cons (.v I) (.cons (.ref 1) (.cons (.v I) (.cons (.v (.sl (.st (.pair .str I)))) (.cons (.v I) (.cons (.v .bool) .nil)))))))))⟩)]
  (.reg [.std, .std, .callq [wainwrightref06_Right.c]]) (.join [(.norm, ⟨163, 0, [.arr (.st (.pair .str I)), .box (.cons (.v .str) (.cons (.v I) .nil))], [0, 3, 4, 5, 6, 12, 13], (.cons (.v (.sl (.st (.pair .str I)))) (.cons (.v (.sl (.st (.pair .str I)))) (.cons (.ref 0) (.cons (.v I) (.cons (.ref 1) (.cons (.v (.sl (.st (.pair .str I)))) (.cons (.v I) .nil)))))))⟩), (.ret, ⟨163, 0, [], [2], (.cons (.v .bool) .nil)⟩)]
  (.seq (.reg []) (.cond (.seq (.reg []) .std) .std)) (.seq (.reg []) (.cond (.seq (.reg []) (.reg [.std, .std, .inl (.st (.pair .str I)), .obj (.st (.pair .str I))])) .std)))))))))) (.reg [])))))) (.seq (.seq (.reg [.std, .callq [rolls_Live.c], .std, .std, .std, .std, .std, .std, .callq [rolls_Right.c]]) (.cond (.seq (.reg []) .std) .std)) (.seq (.seq (.reg []) (.block (.loop ⟨163, 0, [.arr (.st (.pair .str I))], [3, 4, 15], (.cons (.v (.sl (.st (.pair .str I)))) (.cons (.ref 0) (.cons (.v I) .nil)))⟩ [(.exit 4, ⟨163, 0, [], [], .nil⟩), (.ret, ⟨163, 0, [], [2], (.cons (.v .bool) .nil)⟩)]
  (.seq (.seq (.reg []) (.cond .std .std)) (.seq (.block (.seq (.reg [.std, .std, .std, .std, .std, .std, .callq [rolls_Find.c]]) (.seq (.reg []) (.cond (.seq (.reg []) .std) .std)))) (.reg [])))))) (.seq (.reg []) .std))))))))
noncomputable def wainwrightlaw07_RollsPlay.code : Code := match Tryd.f6.body with | some c => c | none => .skip
theorem wainwrightlaw07_RollsPlay.eq : absFn tt 163 wainwrightlaw07_RollsPlay.ins wainwrightlaw07_RollsPlay.outs wainwrightlaw07_RollsPlay.code wainwrightlaw07_RollsPlay.ann = wainwrightlaw07_RollsPlay := by
  funext a
  kernel_rfl
theorem wainwrightlaw07_RollsPlay.ok : wainwrightlaw07_RollsPlay.ann.ok Tryd.prog 0 163 :=
  ann_ok (by kernel_rfl) (by kernel_rfl) (show ∀ c ∈ ([wainwrightlaw07_lives.c, wainwrightlaw07_early.c, rolls_Drop.c, rolls_Add.c, wainwrightref06_Right.c, rolls_Live.c, rolls_Right.c, rolls_Find.c] : List Callee'), c.ok Tryd.prog from cs_cons wainwrightlaw07_lives.sound (cs_cons wainwrightlaw07_early.sound (cs_cons rolls_Drop.sound (cs_cons rolls_Add.sound (cs_cons wainwrightref06_Right.sound (cs_cons rolls_Live.sound (cs_cons rolls_Right.sound (cs_cons rolls_Find.sound cs_nil))))))))
    (show ∀ c ∈ ([wainwrightlaw07_lives.c, wainwrightlaw07_early.c, rolls_Drop.c, rolls_Add.c, wainwrightref06_Right.c, rolls_Live.c, rolls_Right.c, rolls_Find.c] : List Callee'), FunQuiet c.F from cs_cons wainwrightlaw07_lives.quiet (cs_cons wainwrightlaw07_early.quiet (cs_cons rolls_Drop.quiet (cs_cons rolls_Add.quiet (cs_cons wainwrightref06_Right.quiet (cs_cons rolls_Live.quiet (cs_cons rolls_Right.quiet (cs_cons rolls_Find.quiet cs_nil))))))))
theorem wainwrightlaw07_RollsPlay.sound : wainwrightlaw07_RollsPlay.c.ok Tryd.prog := by
  refine ⟨?_, Tryd.f6, wainwrightlaw07_RollsPlay.code, Tryd.func6, rfl, by decide⟩
  have h := fn_sound tt_ok mix_ok (x := wainwrightlaw07_RollsPlay.ann) (ins := wainwrightlaw07_RollsPlay.ins) (outs := wainwrightlaw07_RollsPlay.outs) (N := 163) Tryd.func6 (c := wainwrightlaw07_RollsPlay.code) rfl rfl (by kernel_rfl) (by kernel_rfl) wainwrightlaw07_RollsPlay.ok (by decide)
  rw [wainwrightlaw07_RollsPlay.eq] at h
  exact h

end Go.Proofs.YtnbhmifidhoblaaDoor.Abs
