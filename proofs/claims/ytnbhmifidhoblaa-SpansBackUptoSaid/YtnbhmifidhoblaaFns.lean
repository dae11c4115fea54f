/- The functions as the abstract machine computes them: printed by gen2.py (own work). -/
import Derived.Test.YtnbhmifidhoblaaProg
import Derived.Test.YtnbhmifidhoblaaAbsFn
import Derived.KernelRfl
namespace Go.Proofs.Ytnbhmifidhoblaa.Abs
open Go Go.Proofs
abbrev I := Ty.int .i64
set_option maxRecDepth 100000
set_option linter.unusedVariables false

def tt : Nat → TI
  | 3 => ⟨.int .i64, 1, 8, [.int .i64 0]⟩
  | 4 => ⟨.bool, 1, 1, [.bool false]⟩
  | 5 => ⟨.int .u8, 1, 1, [.int .u8 0]⟩
  | 9 => ⟨.str, 1, 16, [.string .empty]⟩
  | 22 => ⟨.sl 3, 1, 24, [.slice none 0 0]⟩
  | 23 => ⟨.sl 39, 1, 24, [.slice none 0 0]⟩
  | 39 => ⟨.st [(3, 0), (3, 1), (3, 2)], 3, 24, [.int .i64 0, .int .i64 0, .int .i64 0]⟩
  | 47 => ⟨.int .u64, 1, 8, [.int .u64 0]⟩
  | 52 => ⟨.int .i64, 1, 8, [.int .i64 0]⟩
  | 60 => ⟨.int .u32, 1, 4, [.int .u32 0]⟩
  | 62 => ⟨.int .u64, 1, 8, [.int .u64 0]⟩
  | _ => ⟨.other, 0, 0, []⟩
theorem tt_ok : TTok Try.prog tt := by
  intro t
  unfold tt
  split
  · exact .inr (ti_ok (d := .int .i64) (by kernel_rfl) (by simp [TK.fits]) (by kernel_rfl))
  · exact .inr (ti_ok (d := .bool) (by kernel_rfl) (by simp [TK.fits]) (by kernel_rfl))
  · exact .inr (ti_ok (d := .int .u8) (by kernel_rfl) (by simp [TK.fits]) (by kernel_rfl))
  · exact .inr (ti_ok (d := .string) (by kernel_rfl) (by simp [TK.fits]) (by kernel_rfl))
  · exact .inr (ti_ok (d := .slice 3) (by kernel_rfl) (by simp [TK.fits]) (by kernel_rfl))
  · exact .inr (ti_ok (d := .slice 39) (by kernel_rfl) (by simp [TK.fits]) (by kernel_rfl))
  · exact .inr (ti_ok_st (by kernel_rfl) (by kernel_rfl))
  · exact .inr (ti_ok (d := .int .u64) (by kernel_rfl) (by simp [TK.fits]) (by kernel_rfl))
  · exact .inr (ti_ok (d := .int .i64) (by kernel_rfl) (by simp [TK.fits]) (by kernel_rfl))
  · exact .inr (ti_ok (d := .int .u32) (by kernel_rfl) (by simp [TK.fits]) (by kernel_rfl))
  · exact .inr (ti_ok (d := .int .u64) (by kernel_rfl) (by simp [TK.fits]) (by kernel_rfl))
  · exact .inl rfl
theorem mix_ok : Try.prog.follows .mixedOrders = true := by kernel_rfl

/-! ### wainwright/spans.joins: function 25 -/
noncomputable def spans_joins : ((Int × Int × Int) × Int × Int × Int) → Option (Bool) := fun (a0, b1) =>
  if (IntKind.i64.wrap (a0.1 + a0.2.2) == b1.1) = true then
    some (((IntKind.i64.wrap (a0.2.1 + a0.2.2) == b1.2.1)))
  else
    some false

def spans_joins.ins : Spec := ⟨23, 0, [], [0, 1], (.cons (.v (.st (.pair I (.pair I I)))) (.cons (.v (.st (.pair I (.pair I I)))) .nil))⟩
def spans_joins.outs : List Spec := [⟨23, 0, [], [4], (.cons (.v .bool) .nil)⟩]
noncomputable def spans_joins.c : Callee' := ⟨25, mkFits spans_joins.ins spans_joins.outs, mkFun spans_joins.ins spans_joins.outs spans_joins⟩
theorem spans_joins.quiet : FunQuiet spans_joins.c.F := mkFun_quiet rfl rfl
noncomputable def spans_joins.ann : Ann :=
  (.seq (.reg []) (.seq (.reg []) .std))
noncomputable def spans_joins.code : Code := match Try.f25.body with | some c => c | none => .skip
theorem spans_joins.eq : absFn tt 23 spans_joins.ins spans_joins.outs spans_joins.code spans_joins.ann = spans_joins := by
  funext a
  kernel_rfl
theorem spans_joins.ok : spans_joins.ann.ok Try.prog 0 23 :=
  ann_ok (by kernel_rfl) (by kernel_rfl) (show ∀ c ∈ ([] : List Callee'), c.ok Try.prog from cs_nil)
    (show ∀ c ∈ ([] : List Callee'), FunQuiet c.F from cs_nil)
theorem spans_joins.sound : spans_joins.c.ok Try.prog := by
  refine ⟨?_, Try.f25, spans_joins.code, Try.func25, rfl, by decide⟩
  have h := fn_sound tt_ok mix_ok (x := spans_joins.ann) (ins := spans_joins.ins) (outs := spans_joins.outs) (N := 23) Try.func25 (c := spans_joins.code) rfl rfl (by kernel_rfl) (by kernel_rfl) spans_joins.ok (by decide)
  rw [spans_joins.eq] at h
  exact h

/-! ### wainwright/spans.add: function 21 -/
noncomputable def spans_add : ((List (Int × Int × Int)) × Int × Int × Int) → Option (List (Int × Int × Int)) := fun (l0, s1) =>
  ((
    if decide (IntKind.i64.wrap ((l0.length : Int) - 1) ≥ 0) = true then
      if 0 ≤ IntKind.i64.wrap ((l0.length : Int) - 1) ∧ IntKind.i64.wrap ((l0.length : Int) - 1) < (l0.length : Int) then
        (spans_joins (((l0.getD ((IntKind.i64.wrap ((l0.length : Int) - 1)).toNat) (0, (0, 0))).1, ((l0.getD ((IntKind.i64.wrap ((l0.length : Int) - 1)).toNat) (0, (0, 0))).2).1, ((l0.getD ((IntKind.i64.wrap ((l0.length : Int) - 1)).toNat) (0, (0, 0))).2).2), s1.1, s1.2.1, s1.2.2)).bind fun r17 =>
          some ((((l0, s1.1, s1.2.1, s1.2.2), IntKind.i64.wrap ((l0.length : Int) - 1), r17)))
      else none
    else
      some ((((l0, s1.1, s1.2.1, s1.2.2), IntKind.i64.wrap ((l0.length : Int) - 1), false)))) : Option (((List (Int × Int × Int)) × Int × Int × Int) × Int × Bool)).bind fun ((l0, s3a, s3b, s3c), n5, t18) =>
    if t18 = true then
      if 0 ≤ n5 ∧ n5 < (l0.length : Int) then
        if 0 ≤ n5 ∧ n5 < (l0.length : Int) then
          some ((l0.set n5.toNat (((l0.getD n5.toNat (0, (0, 0))).1, ((l0.getD n5.toNat (0, (0, 0))).2).1, IntKind.i64.wrap ((((l0.getD n5.toNat (0, (0, 0))).2).2) + s3c)))))
        else none
      else none
    else
      if roomOk (l0.length + (([(s3a, s3b, s3c)] : List (Int × Int × Int))).length) 24 then
        some ((l0 ++ (([(s3a, s3b, s3c)] : List (Int × Int × Int)))))
      else none

def spans_add.ins : Spec := ⟨34, 0, [.arr (.st (.pair I (.pair I I)))], [0, 1], (.cons (.ref 0) (.cons (.v (.st (.pair I (.pair I I)))) .nil))⟩
def spans_add.outs : List Spec := [⟨34, 1, [.dead], [4], (.cons (.v (.sl (.st (.pair I (.pair I I))))) .nil)⟩]
noncomputable def spans_add.c : Callee' := ⟨21, mkFits spans_add.ins spans_add.outs, mkFun spans_add.ins spans_add.outs spans_add⟩
noncomputable def spans_add.ann : Ann :=
  (.seq (.reg []) (.seq (.seq (.reg []) (.join [(.norm, ⟨34, 1, [.arr (.st (.pair I (.pair I I))), .box (.cons (.v I) (.cons (.v I) (.cons (.v I) .nil)))], [0, 3, 5, 18], (.cons (.ref 0) (.cons (.ref 1) (.cons (.v I) (.cons (.v .bool) .nil))))⟩)]
  (.drw [.std, .std, .std, .std, .std, .std, .std, .std, .callq [spans_joins.c]]) (.cond (.seq (.drw []) (.seq (.reg []) .std)) .std))) (.seq (.reg [.std, .std, .inl (.st (.pair I (.pair I I))), .obj (.st (.pair I (.pair I I)))]) .std)))
noncomputable def spans_add.code : Code := match Try.f21.body with | some c => c | none => .skip
theorem spans_add.eq : absFn tt 34 spans_add.ins spans_add.outs spans_add.code spans_add.ann = spans_add := by
  funext a
  kernel_rfl
theorem spans_add.ok : spans_add.ann.ok Try.prog 1 34 :=
  ann_ok (by kernel_rfl) (by kernel_rfl) (show ∀ c ∈ ([spans_joins.c] : List Callee'), c.ok Try.prog from cs_cons spans_joins.sound cs_nil)
    (show ∀ c ∈ ([spans_joins.c] : List Callee'), FunQuiet c.F from cs_cons spans_joins.quiet cs_nil)
theorem spans_add.sound : spans_add.c.ok Try.prog := by
  refine ⟨?_, Try.f21, spans_add.code, Try.func21, rfl, by decide⟩
  have h := fn_sound tt_ok mix_ok (x := spans_add.ann) (ins := spans_add.ins) (outs := spans_add.outs) (N := 34) Try.func21 (c := spans_add.code) rfl rfl (by kernel_rfl) (by kernel_rfl) spans_add.ok (by decide)
  rw [spans_add.eq] at h
  exact h

/-! ### wainwright/spans.add: function 21 -/
noncomputable def spans_add_1 : ((List (Int × Int × Int)) × Int × Int × Int) → Option (List (Int × Int × Int)) := fun (l0, s1) =>
  ((
    if decide (IntKind.i64.wrap ((l0.length : Int) - 1) ≥ 0) = true then
      if 0 ≤ IntKind.i64.wrap ((l0.length : Int) - 1) ∧ IntKind.i64.wrap ((l0.length : Int) - 1) < (l0.length : Int) then
        (spans_joins (((l0.getD ((IntKind.i64.wrap ((l0.length : Int) - 1)).toNat) (0, (0, 0))).1, ((l0.getD ((IntKind.i64.wrap ((l0.length : Int) - 1)).toNat) (0, (0, 0))).2).1, ((l0.getD ((IntKind.i64.wrap ((l0.length : Int) - 1)).toNat) (0, (0, 0))).2).2), s1.1, s1.2.1, s1.2.2)).bind fun r17 =>
          some ((((l0, s1.1, s1.2.1, s1.2.2), IntKind.i64.wrap ((l0.length : Int) - 1), r17)))
      else none
    else
      some ((((l0, s1.1, s1.2.1, s1.2.2), IntKind.i64.wrap ((l0.length : Int) - 1), false)))) : Option (((List (Int × Int × Int)) × Int × Int × Int) × Int × Bool)).bind fun ((l0, s3a, s3b, s3c), n5, t18) =>
    if t18 = true then
      if 0 ≤ n5 ∧ n5 < (l0.length : Int) then
        if 0 ≤ n5 ∧ n5 < (l0.length : Int) then
          some ((l0.set n5.toNat (((l0.getD n5.toNat (0, (0, 0))).1, ((l0.getD n5.toNat (0, (0, 0))).2).1, IntKind.i64.wrap ((((l0.getD n5.toNat (0, (0, 0))).2).2) + s3c)))))
        else none
      else none
    else
      if roomOk (l0.length + (([(s3a, s3b, s3c)] : List (Int × Int × Int))).length) 24 then
        some ((l0 ++ (([(s3a, s3b, s3c)] : List (Int × Int × Int)))))
      else none

def spans_add_1.ins : Spec := ⟨34, 0, [.arr (.st (.pair I (.pair I I)))], [0, 1], (.cons (.ref 0) (.cons (.v (.st (.pair I (.pair I I)))) .nil))⟩
def spans_add_1.outs : List Spec := [⟨34, 1, [.dead, .arr (.st (.pair I (.pair I I)))], [4], (.cons (.ref 1) .nil)⟩]
noncomputable def spans_add_1.c : Callee' := ⟨21, mkFits spans_add_1.ins spans_add_1.outs, mkFun spans_add_1.ins spans_add_1.outs spans_add_1⟩
noncomputable def spans_add_1.ann : Ann :=
  (.seq (.reg []) (.seq (.seq (.reg []) (.join [(.norm, ⟨34, 1, [.arr (.st (.pair I (.pair I I))), .box (.cons (.v I) (.cons (.v I) (.cons (.v I) .nil)))], [0, 3, 5, 18], (.cons (.ref 0) (.cons (.ref 1) (.cons (.v I) (.cons (.v .bool) .nil))))⟩)]
  (.drw [.std, .std, .std, .std, .std, .std, .std, .std, .callq [spans_joins.c]]) (.cond (.seq (.drw []) (.seq (.reg []) .std)) .std))) (.seq (.reg [.std, .std, .inl (.st (.pair I (.pair I I))), .obj (.st (.pair I (.pair I I)))]) .std)))
noncomputable def spans_add_1.code : Code := match Try.f21.body with | some c => c | none => .skip
theorem spans_add_1.eq : absFn tt 34 spans_add_1.ins spans_add_1.outs spans_add_1.code spans_add_1.ann = spans_add_1 := by
  funext a
  kernel_rfl
theorem spans_add_1.ok : spans_add_1.ann.ok Try.prog 1 34 :=
  ann_ok (by kernel_rfl) (by kernel_rfl) (show ∀ c ∈ ([spans_joins.c] : List Callee'), c.ok Try.prog from cs_cons spans_joins.sound cs_nil)
    (show ∀ c ∈ ([spans_joins.c] : List Callee'), FunQuiet c.F from cs_cons spans_joins.quiet cs_nil)
theorem spans_add_1.sound : spans_add_1.c.ok Try.prog := by
  refine ⟨?_, Try.f21, spans_add_1.code, Try.func21, rfl, by decide⟩
  have h := fn_sound tt_ok mix_ok (x := spans_add_1.ann) (ins := spans_add_1.ins) (outs := spans_add_1.outs) (N := 34) Try.func21 (c := spans_add_1.code) rfl rfl (by kernel_rfl) (by kernel_rfl) spans_add_1.ok (by decide)
  rw [spans_add_1.eq] at h
  exact h

/-! ### wainwright/spans.Of: function 11 -/
noncomputable def spans_Of.l1 : ((List (Int × Int × Int)) × List Int × Int × Int) → Option (((List (Int × Int × Int)) × List Int × Int × Int) ⊕ (List (Int × Int × Int))) := fun (l3, t10, t11, t12) =>
  if decide (t12 < t11) = true then
    if 0 ≤ t12 ∧ t12 < (t10.length : Int) then
      ((
        if decide (t10.getD t12.toNat 0 > 0) = true then
          some (((l3, t12, t10.getD t12.toNat 0, t10, t11, t12, decide (t10.getD t12.toNat 0 < 65536))))
        else
          some (((l3, t12, t10.getD t12.toNat 0, t10, t11, t12, false)))) : Option ((List (Int × Int × Int)) × Int × Int × List Int × Int × Int × Bool)).bind fun (l3, i4, b5, t10, t11, t12, t22) =>
        if t22 = true then
          (spans_add_1 (l3, i4, b5, 1)).bind fun r27 =>
            some (.inl ((r27, t10, t11, IntKind.i64.wrap (t12 + 1))))
        else
          some (.inl ((l3, t10, t11, IntKind.i64.wrap (t12 + 1))))
    else none
  else
    some (.inr l3)

noncomputable def spans_Of : List Int → Option (List (Int × Int × Int)) := fun m0 =>
  if 0 ≤ (if 65536 < (m0.length : Int) then 65536 else (m0.length : Int)) ∧ (if 65536 < (m0.length : Int) then 65536 else (m0.length : Int)) ≤ (m0.length : Int) then
    (loopO spans_Of.l1 (([], m0.take ((if 65536 < (m0.length : Int) then 65536 else (m0.length : Int))).toNat, ((m0.take ((if 65536 < (m0.length : Int) then 65536 else (m0.length : Int))).toNat).length : Int), 0))).bind fun l3 =>
      some l3
  else none

def spans_Of.ins : Spec := ⟨30, 0, [], [0], (.cons (.v (.sl I)) .nil)⟩
def spans_Of.outs : List Spec := [⟨30, 0, [], [2], (.cons (.v (.sl (.st (.pair I (.pair I I))))) .nil)⟩]
noncomputable def spans_Of.c : Callee' := ⟨11, mkFits spans_Of.ins spans_Of.outs, mkFun spans_Of.ins spans_Of.outs spans_Of⟩
theorem spans_Of.quiet : FunQuiet spans_Of.c.F := mkFun_quiet rfl rfl
noncomputable def spans_Of.ann : Ann :=
  (.seq (.reg []) (.seq (.reg []) (.seq (.seq (.reg []) (.block (.loop ⟨30, 0, [.arr (.st (.pair I (.pair I I)))], [3, 10, 11, 12], (.cons (.ref 0) (.cons (.v (.sl I)) (.cons (.v I) (.cons (.v I) .nil))))⟩ [(.exit 0, ⟨30, 0, [.arr (.st (.pair I (.pair I I)))], [3], (.cons (.ref 0) .nil)⟩)]
  (.seq (.reg []) (.seq (.cond .std .std) (.seq (.block (.seq (.reg []) (.join [(.norm, ⟨30, 0, [.arr (.st (.pair I (.pair I I)))], [3, 4, 5, 10, 11, 12, 22], (.cons (.ref 0) (.cons (.v I) (.cons (.v I) (.cons (.v (.sl I)) (.cons (.v I) (.cons (.v I) (.cons (.v .bool) .nil)))))))⟩)]
  (.reg []) (.cond (.reg [.std, .std, .std, .std, .call [spans_add_1.c]]) .std)))) (.reg []))))))) (.seq (.reg []) .std))))
noncomputable def spans_Of.code : Code := match Try.f11.body with | some c => c | none => .skip
theorem spans_Of.eq : absFn tt 30 spans_Of.ins spans_Of.outs spans_Of.code spans_Of.ann = spans_Of := by
  funext a
  kernel_rfl
theorem spans_Of.ok : spans_Of.ann.ok Try.prog 0 30 :=
  ann_ok (by kernel_rfl) (by kernel_rfl) (show ∀ c ∈ ([spans_add_1.c] : List Callee'), c.ok Try.prog from cs_cons spans_add_1.sound cs_nil)
    (show ∀ c ∈ ([] : List Callee'), FunQuiet c.F from cs_nil)
theorem spans_Of.sound : spans_Of.c.ok Try.prog := by
  refine ⟨?_, Try.f11, spans_Of.code, Try.func11, rfl, by decide⟩
  have h := fn_sound tt_ok mix_ok (x := spans_Of.ann) (ins := spans_Of.ins) (outs := spans_Of.outs) (N := 30) Try.func11 (c := spans_Of.code) rfl rfl (by kernel_rfl) (by kernel_rfl) spans_Of.ok (by decide)
  rw [spans_Of.eq] at h
  exact h

/-! ### wainwright/spans.odd: function 24 -/
noncomputable def spans_odd : (Int × Int × Int) → Option (Bool) := fun s0 =>
  if decide (s0.1 < 0) = false then
    if decide (s0.2.1 < 1) = false then
      if decide (s0.2.2 < 1) = false then
        if decide (s0.2.2 ≥ 65536) = false then
          if decide (s0.1 > IntKind.i64.wrap (65536 - s0.2.2)) = false then
            some ((decide (s0.2.1 > IntKind.i64.wrap (65536 - s0.2.2))))
          else
            some true
        else
          some true
      else
        some true
    else
      some true
  else
    some true

def spans_odd.ins : Spec := ⟨37, 0, [], [0], (.cons (.v (.st (.pair I (.pair I I)))) .nil)⟩
def spans_odd.outs : List Spec := [⟨37, 0, [], [2], (.cons (.v .bool) .nil)⟩]
noncomputable def spans_odd.c : Callee' := ⟨24, mkFits spans_odd.ins spans_odd.outs, mkFun spans_odd.ins spans_odd.outs spans_odd⟩
theorem spans_odd.quiet : FunQuiet spans_odd.c.F := mkFun_quiet rfl rfl
noncomputable def spans_odd.ann : Ann :=
  (.seq (.reg []) (.seq (.reg []) .std))
noncomputable def spans_odd.code : Code := match Try.f24.body with | some c => c | none => .skip
theorem spans_odd.eq : absFn tt 37 spans_odd.ins spans_odd.outs spans_odd.code spans_odd.ann = spans_odd := by
  funext a
  kernel_rfl
theorem spans_odd.ok : spans_odd.ann.ok Try.prog 0 37 :=
  ann_ok (by kernel_rfl) (by kernel_rfl) (show ∀ c ∈ ([] : List Callee'), c.ok Try.prog from cs_nil)
    (show ∀ c ∈ ([] : List Callee'), FunQuiet c.F from cs_nil)
theorem spans_odd.sound : spans_odd.c.ok Try.prog := by
  refine ⟨?_, Try.f24, spans_odd.code, Try.func24, rfl, by decide⟩
  have h := fn_sound tt_ok mix_ok (x := spans_odd.ann) (ins := spans_odd.ins) (outs := spans_odd.outs) (N := 37) Try.func24 (c := spans_odd.code) rfl rfl (by kernel_rfl) (by kernel_rfl) spans_odd.ok (by decide)
  rw [spans_odd.eq] at h
  exact h

/-! ### wainwright/spans.Right: function 16 -/
noncomputable def spans_Right.l1 : ((List (Int × Int × Int)) × (List (Int × Int × Int)) × Int × Int) → Option (((List (Int × Int × Int)) × (List (Int × Int × Int)) × Int × Int) ⊕ (Unit ⊕ Bool)) := fun (l0, t5, t6, t7) =>
  if decide (t7 < t6) = true then
    if 0 ≤ t7 ∧ t7 < (t5.length : Int) then
      (spans_odd ((t5.getD t7.toNat (0, (0, 0))).1, ((t5.getD t7.toNat (0, (0, 0))).2).1, ((t5.getD t7.toNat (0, (0, 0))).2).2)).bind fun r13 =>
        if r13 = false then
          if decide (t7 > 0) = true then
            if 0 ≤ IntKind.i64.wrap (t7 - 1) ∧ IntKind.i64.wrap (t7 - 1) < (l0.length : Int) then
              if 0 ≤ IntKind.i64.wrap (t7 - 1) ∧ IntKind.i64.wrap (t7 - 1) < (l0.length : Int) then
                if decide ((t5.getD t7.toNat (0, (0, 0))).1 < IntKind.i64.wrap (((l0.getD ((IntKind.i64.wrap (t7 - 1)).toNat) (0, (0, 0))).1) + (((l0.getD ((IntKind.i64.wrap (t7 - 1)).toNat) (0, (0, 0))).2).2))) = false then
                  if 0 ≤ IntKind.i64.wrap (t7 - 1) ∧ IntKind.i64.wrap (t7 - 1) < (l0.length : Int) then
                    (spans_joins (((l0.getD ((IntKind.i64.wrap (t7 - 1)).toNat) (0, (0, 0))).1, ((l0.getD ((IntKind.i64.wrap (t7 - 1)).toNat) (0, (0, 0))).2).1, ((l0.getD ((IntKind.i64.wrap (t7 - 1)).toNat) (0, (0, 0))).2).2), (t5.getD t7.toNat (0, (0, 0))).1, ((t5.getD t7.toNat (0, (0, 0))).2).1, ((t5.getD t7.toNat (0, (0, 0))).2).2)).bind fun r41 =>
                      if r41 = true then
                        some (.inr (.inr false))
                      else
                        some (.inl ((l0, t5, t6, IntKind.i64.wrap (t7 + 1))))
                  else none
                else
                  some (.inr (.inr false))
              else none
            else none
          else
            some (.inl ((l0, t5, t6, IntKind.i64.wrap (t7 + 1))))
        else
          some (.inr (.inr false))
    else none
  else
    some (.inr (.inl ()))

noncomputable def spans_Right : (List (Int × Int × Int)) → Option (Bool) := fun l0 =>
  (loopO spans_Right.l1 ((l0, l0, (l0.length : Int), 0))).bind fun d => match d with
  | .inl _ =>
    some true
  | .inr t2 =>
    some t2

def spans_Right.ins : Spec := ⟨46, 0, [], [0], (.cons (.v (.sl (.st (.pair I (.pair I I))))) .nil)⟩
def spans_Right.outs : List Spec := [⟨46, 0, [], [2], (.cons (.v .bool) .nil)⟩]
noncomputable def spans_Right.c : Callee' := ⟨16, mkFits spans_Right.ins spans_Right.outs, mkFun spans_Right.ins spans_Right.outs spans_Right⟩
theorem spans_Right.quiet : FunQuiet spans_Right.c.F := mkFun_quiet rfl rfl
noncomputable def spans_Right.ann : Ann :=
  (.seq (.reg []) (.seq (.seq (.reg []) (.block (.loop ⟨46, 0, [], [0, 5, 6, 7], (.cons (.v (.sl (.st (.pair I (.pair I I))))) (.cons (.v (.sl (.st (.pair I (.pair I I))))) (.cons (.v I) (.cons (.v I) .nil))))⟩ [(.exit 0, ⟨46, 0, [], [], .nil⟩), (.ret, ⟨46, 0, [], [2], (.cons (.v .bool) .nil)⟩)]
  (.seq (.reg []) (.seq (.cond .std .std) (.seq (.block (.seq (.reg []) (.seq (.drw [.std, .callq [spans_odd.c], .std, .std, .std, .std, .std, .std, .std, .std, .std, .std, .std, .std, .std, .std, .std, .std, .std, .std, .std, .std, .std, .std, .std, .std, .std, .std, .std, .callq [spans_joins.c]]) (.cond (.seq (.reg []) .std) .std)))) (.reg []))))))) (.seq (.reg []) .std)))
noncomputable def spans_Right.code : Code := match Try.f16.body with | some c => c | none => .skip
theorem spans_Right.eq : absFn tt 46 spans_Right.ins spans_Right.outs spans_Right.code spans_Right.ann = spans_Right := by
  funext a
  kernel_rfl
theorem spans_Right.ok : spans_Right.ann.ok Try.prog 0 46 :=
  ann_ok (by kernel_rfl) (by kernel_rfl) (show ∀ c ∈ ([spans_odd.c, spans_joins.c] : List Callee'), c.ok Try.prog from cs_cons spans_odd.sound (cs_cons spans_joins.sound cs_nil))
    (show ∀ c ∈ ([spans_odd.c, spans_joins.c] : List Callee'), FunQuiet c.F from cs_cons spans_odd.quiet (cs_cons spans_joins.quiet cs_nil))
theorem spans_Right.sound : spans_Right.c.ok Try.prog := by
  refine ⟨?_, Try.f16, spans_Right.code, Try.func16, rfl, by decide⟩
  have h := fn_sound tt_ok mix_ok (x := spans_Right.ann) (ins := spans_Right.ins) (outs := spans_Right.outs) (N := 46) Try.func16 (c := spans_Right.code) rfl rfl (by kernel_rfl) (by kernel_rfl) spans_Right.ok (by decide)
  rw [spans_Right.eq] at h
  exact h

/-! ### wainwright/spans.has: function 23 -/
noncomputable def spans_has : ((Int × Int × Int) × Int) → Option (Bool) := fun (s0, i1) =>
  if decide (s0.1 ≤ i1) = true then
    some ((decide (IntKind.u64.wrap ((IntKind.u64.wrap (i1)) - (IntKind.u64.wrap (s0.1))) < IntKind.u64.wrap ((if 0 > s0.2.2 then 0 else s0.2.2)))))
  else
    some false

def spans_has.ins : Spec := ⟨22, 0, [], [0, 1], (.cons (.v (.st (.pair I (.pair I I)))) (.cons (.v I) .nil))⟩
def spans_has.outs : List Spec := [⟨22, 0, [], [4], (.cons (.v .bool) .nil)⟩]
noncomputable def spans_has.c : Callee' := ⟨23, mkFits spans_has.ins spans_has.outs, mkFun spans_has.ins spans_has.outs spans_has⟩
theorem spans_has.quiet : FunQuiet spans_has.c.F := mkFun_quiet rfl rfl
noncomputable def spans_has.ann : Ann :=
  (.seq (.reg []) (.seq (.reg []) .std))
noncomputable def spans_has.code : Code := match Try.f23.body with | some c => c | none => .skip
theorem spans_has.eq : absFn tt 22 spans_has.ins spans_has.outs spans_has.code spans_has.ann = spans_has := by
  funext a
  kernel_rfl
theorem spans_has.ok : spans_has.ann.ok Try.prog 0 22 :=
  ann_ok (by kernel_rfl) (by kernel_rfl) (show ∀ c ∈ ([] : List Callee'), c.ok Try.prog from cs_nil)
    (show ∀ c ∈ ([] : List Callee'), FunQuiet c.F from cs_nil)
theorem spans_has.sound : spans_has.c.ok Try.prog := by
  refine ⟨?_, Try.f23, spans_has.code, Try.func23, rfl, by decide⟩
  have h := fn_sound tt_ok mix_ok (x := spans_has.ann) (ins := spans_has.ins) (outs := spans_has.outs) (N := 22) Try.func23 (c := spans_has.code) rfl rfl (by kernel_rfl) (by kernel_rfl) spans_has.ok (by decide)
  rw [spans_has.eq] at h
  exact h

/-! ### wainwright/spans.At: function 17 -/
noncomputable def spans_At.l1 : (Int × (List (Int × Int × Int)) × Int × Int) → Option ((Int × (List (Int × Int × Int)) × Int × Int) ⊕ (Unit ⊕ Int)) := fun (i1, t7, t8, t9) =>
  if decide (t9 < t8) = true then
    if 0 ≤ t9 ∧ t9 < (t7.length : Int) then
      (spans_has (((t7.getD t9.toNat (0, (0, 0))).1, ((t7.getD t9.toNat (0, (0, 0))).2).1, ((t7.getD t9.toNat (0, (0, 0))).2).2), i1)).bind fun r15 =>
        if r15 = true then
          some (.inr (.inr ((IntKind.i64.wrap ((((t7.getD t9.toNat (0, (0, 0))).2).1) + (IntKind.i64.wrap (i1 - ((t7.getD t9.toNat (0, (0, 0))).1))))))))
        else
          some (.inl ((i1, t7, t8, IntKind.i64.wrap (t9 + 1))))
    else none
  else
    some (.inr (.inl ()))

noncomputable def spans_At : ((List (Int × Int × Int)) × Int) → Option (Int) := fun (l0, i1) =>
  (loopO spans_At.l1 ((i1, l0, (l0.length : Int), 0))).bind fun d => match d with
  | .inl _ =>
    some 0
  | .inr t4 =>
    some t4

def spans_At.ins : Spec := ⟨24, 0, [], [0, 1], (.cons (.v (.sl (.st (.pair I (.pair I I))))) (.cons (.v I) .nil))⟩
def spans_At.outs : List Spec := [⟨24, 0, [], [4], (.cons (.v I) .nil)⟩]
noncomputable def spans_At.c : Callee' := ⟨17, mkFits spans_At.ins spans_At.outs, mkFun spans_At.ins spans_At.outs spans_At⟩
theorem spans_At.quiet : FunQuiet spans_At.c.F := mkFun_quiet rfl rfl
noncomputable def spans_At.ann : Ann :=
  (.seq (.reg []) (.seq (.seq (.reg []) (.block (.loop ⟨24, 0, [], [1, 7, 8, 9], (.cons (.v I) (.cons (.v (.sl (.st (.pair I (.pair I I))))) (.cons (.v I) (.cons (.v I) .nil))))⟩ [(.exit 0, ⟨24, 0, [], [], .nil⟩), (.ret, ⟨24, 0, [], [4], (.cons (.v I) .nil)⟩)]
  (.seq (.reg []) (.seq (.cond .std .std) (.seq (.block (.seq (.reg []) (.seq (.reg [.std, .std, .callq [spans_has.c]]) (.cond (.seq (.reg []) .std) .std)))) (.reg []))))))) (.seq (.reg []) .std)))
noncomputable def spans_At.code : Code := match Try.f17.body with | some c => c | none => .skip
theorem spans_At.eq : absFn tt 24 spans_At.ins spans_At.outs spans_At.code spans_At.ann = spans_At := by
  funext a
  kernel_rfl
theorem spans_At.ok : spans_At.ann.ok Try.prog 0 24 :=
  ann_ok (by kernel_rfl) (by kernel_rfl) (show ∀ c ∈ ([spans_has.c] : List Callee'), c.ok Try.prog from cs_cons spans_has.sound cs_nil)
    (show ∀ c ∈ ([spans_has.c] : List Callee'), FunQuiet c.F from cs_cons spans_has.quiet cs_nil)
theorem spans_At.sound : spans_At.c.ok Try.prog := by
  refine ⟨?_, Try.f17, spans_At.code, Try.func17, rfl, by decide⟩
  have h := fn_sound tt_ok mix_ok (x := spans_At.ann) (ins := spans_At.ins) (outs := spans_At.outs) (N := 24) Try.func17 (c := spans_At.code) rfl rfl (by kernel_rfl) (by kernel_rfl) spans_At.ok (by decide)
  rw [spans_At.eq] at h
  exact h

/-! ### wainwright/spans.Blocks: function 18 -/
noncomputable def spans_Blocks.l2 : ((List Int × Int × Int × Int) × (List (Int × Int × Int)) × Int × Int × Int × Int) → Option (((List Int × Int × Int × Int) × (List (Int × Int × Int)) × Int × Int × Int × Int) ⊕ (List Int × (List (Int × Int × Int)) × Int × Int)) := fun ((out3, s5a, s5b, s5c), t7, t8, t9, t16, t17) =>
  if decide (t17 < t16) = true then
    if roomOk (out3.length + (([IntKind.i64.wrap (s5b + t17)] : List Int)).length) 8 then
      some (.inl (((out3 ++ (([IntKind.i64.wrap (s5b + t17)] : List Int)), s5a, s5b, s5c), t7, t8, t9, t16, IntKind.i64.wrap (t17 + 1))))
    else none
  else
    some (.inr (((out3, t7, t8, t9))))

noncomputable def spans_Blocks.l1 : (List Int × (List (Int × Int × Int)) × Int × Int) → Option ((List Int × (List (Int × Int × Int)) × Int × Int) ⊕ (List Int)) := fun (out3, t7, t8, t9) =>
  if decide (t9 < t8) = true then
    if 0 ≤ t9 ∧ t9 < (t7.length : Int) then
      (loopO spans_Blocks.l2 (((out3, (t7.getD t9.toNat (0, (0, 0))).1, ((t7.getD t9.toNat (0, (0, 0))).2).1, ((t7.getD t9.toNat (0, (0, 0))).2).2), t7, t8, t9, (if 65536 < (if 0 > ((t7.getD t9.toNat (0, (0, 0))).2).2 then 0 else ((t7.getD t9.toNat (0, (0, 0))).2).2) then 65536 else (if 0 > ((t7.getD t9.toNat (0, (0, 0))).2).2 then 0 else ((t7.getD t9.toNat (0, (0, 0))).2).2)), 0))).bind fun (out3, t7, t8, t9) =>
        some (.inl ((out3, t7, t8, IntKind.i64.wrap (t9 + 1))))
    else none
  else
    some (.inr out3)

noncomputable def spans_Blocks : (List (Int × Int × Int)) → Option (List Int) := fun l0 =>
  (loopO spans_Blocks.l1 (([], l0, (l0.length : Int), 0))).bind fun out3 =>
    some out3

def spans_Blocks.ins : Spec := ⟨30, 0, [], [0], (.cons (.v (.sl (.st (.pair I (.pair I I))))) .nil)⟩
def spans_Blocks.outs : List Spec := [⟨30, 0, [], [2], (.cons (.v (.sl I)) .nil)⟩]
noncomputable def spans_Blocks.c : Callee' := ⟨18, mkFits spans_Blocks.ins spans_Blocks.outs, mkFun spans_Blocks.ins spans_Blocks.outs spans_Blocks⟩
theorem spans_Blocks.quiet : FunQuiet spans_Blocks.c.F := mkFun_quiet rfl rfl
noncomputable def spans_Blocks.ann : Ann :=
  (.seq (.reg []) (.seq (.reg []) (.seq (.seq (.reg []) (.block (.loop ⟨30, 0, [.arr I], [3, 7, 8, 9], (.cons (.ref 0) (.cons (.v (.sl (.st (.pair I (.pair I I))))) (.cons (.v I) (.cons (.v I) .nil))))⟩ [(.exit 0, ⟨30, 0, [.arr I], [3], (.cons (.ref 0) .nil)⟩)]
  (.seq (.reg []) (.seq (.cond .std .std) (.seq (.block (.seq (.reg []) (.seq (.reg []) (.block (.loop ⟨30, 0, [.arr I, .box (.cons (.v I) (.cons (.v I) (.cons (.v I) .nil)))], [3, 5, 7, 8, 9, 16, 17], (.cons (.ref 0) (.cons (.ref 1) (.cons (.v (.sl (.st (.pair I (.pair I I))))) (.cons (.v I) (.cons (.v I) (.cons (.v I) (.cons (.v I) .nil)))))))⟩ [(.exit 2, ⟨30, 0, [.arr I], [3, 7, 8, 9], (.cons (.ref 0) (.cons (.v (.sl (.st (.pair I (.pair I I))))) (.cons (.v I) (.cons (.v I) .nil))))⟩)]
  (.seq (.reg []) (.seq (.cond .std .std) (.seq (.block (.seq (.reg []) (.reg [.std, .std, .std, .std, .std, .inl I, .obj I]))) (.reg []))))))))) (.reg []))))))) (.seq (.reg []) .std))))
noncomputable def spans_Blocks.code : Code := match Try.f18.body with | some c => c | none => .skip
theorem spans_Blocks.eq : absFn tt 30 spans_Blocks.ins spans_Blocks.outs spans_Blocks.code spans_Blocks.ann = spans_Blocks := by
  funext a
  kernel_rfl
theorem spans_Blocks.ok : spans_Blocks.ann.ok Try.prog 0 30 :=
  ann_ok (by kernel_rfl) (by kernel_rfl) (show ∀ c ∈ ([] : List Callee'), c.ok Try.prog from cs_nil)
    (show ∀ c ∈ ([] : List Callee'), FunQuiet c.F from cs_nil)
theorem spans_Blocks.sound : spans_Blocks.c.ok Try.prog := by
  refine ⟨?_, Try.f18, spans_Blocks.code, Try.func18, rfl, by decide⟩
  have h := fn_sound tt_ok mix_ok (x := spans_Blocks.ann) (ins := spans_Blocks.ins) (outs := spans_Blocks.outs) (N := 30) Try.func18 (c := spans_Blocks.code) rfl rfl (by kernel_rfl) (by kernel_rfl) spans_Blocks.ok (by decide)
  rw [spans_Blocks.eq] at h
  exact h

/-! ### math/bits.Len64: function 42 -/
noncomputable def bits_Len64 : Int → Option (Int) := fun x0 =>
  ((
    if decide (x0 ≥ 4294967296) = true then
      some (((Int.fdiv x0 (2 ^ 32), 32)))
    else
      some (((x0, 0)))) : Option (Int × Int)).bind fun (x0, n2) =>
    ((
      if decide (x0 ≥ 65536) = true then
        some (((Int.fdiv x0 (2 ^ 16), IntKind.i64.wrap (n2 + 16))))
      else
        some (((x0, n2)))) : Option (Int × Int)).bind fun (x0, n2) =>
      if decide (x0 ≥ 256) = true then
        if 0 ≤ IntKind.u8.wrap (Int.fdiv x0 (2 ^ 8)) ∧ IntKind.u8.wrap (Int.fdiv x0 (2 ^ 8)) < ((([0, 1, 2, 2, 3, 3, 3, 3, 4, 4, 4, 4, 4, 4, 4, 4, 5, 5, 5, 5, 5, 5, 5, 5, 5, 5, 5, 5, 5, 5, 5, 5, 6, 6, 6, 6, 6, 6, 6, 6, 6, 6, 6, 6, 6, 6, 6, 6, 6, 6, 6, 6, 6, 6, 6, 6, 6, 6, 6, 6, 6, 6, 6, 6, 7, 7, 7, 7, 7, 7, 7, 7, 7, 7, 7, 7, 7, 7, 7, 7, 7, 7, 7, 7, 7, 7, 7, 7, 7, 7, 7, 7, 7, 7, 7, 7, 7, 7, 7, 7, 7, 7, 7, 7, 7, 7, 7, 7, 7, 7, 7, 7, 7, 7, 7, 7, 7, 7, 7, 7, 7, 7, 7, 7, 7, 7, 7, 7, 8, 8, 8, 8, 8, 8, 8, 8, 8, 8, 8, 8, 8, 8, 8, 8, 8, 8, 8, 8, 8, 8, 8, 8, 8, 8, 8, 8, 8, 8, 8, 8, 8, 8, 8, 8, 8, 8, 8, 8, 8, 8, 8, 8, 8, 8, 8, 8, 8, 8, 8, 8, 8, 8, 8, 8, 8, 8, 8, 8, 8, 8, 8, 8, 8, 8, 8, 8, 8, 8, 8, 8, 8, 8, 8, 8, 8, 8, 8, 8, 8, 8, 8, 8, 8, 8, 8, 8, 8, 8, 8, 8, 8, 8, 8, 8, 8, 8, 8, 8, 8, 8, 8, 8, 8, 8, 8, 8, 8, 8, 8, 8, 8, 8, 8, 8, 8, 8, 8, 8, 8, 8, 8, 8, 8, 8, 8, 8] : List UInt8)).length : Int) then
          some ((IntKind.i64.wrap ((IntKind.i64.wrap (n2 + 8)) + (IntKind.i64.wrap ((((([0, 1, 2, 2, 3, 3, 3, 3, 4, 4, 4, 4, 4, 4, 4, 4, 5, 5, 5, 5, 5, 5, 5, 5, 5, 5, 5, 5, 5, 5, 5, 5, 6, 6, 6, 6, 6, 6, 6, 6, 6, 6, 6, 6, 6, 6, 6, 6, 6, 6, 6, 6, 6, 6, 6, 6, 6, 6, 6, 6, 6, 6, 6, 6, 7, 7, 7, 7, 7, 7, 7, 7, 7, 7, 7, 7, 7, 7, 7, 7, 7, 7, 7, 7, 7, 7, 7, 7, 7, 7, 7, 7, 7, 7, 7, 7, 7, 7, 7, 7, 7, 7, 7, 7, 7, 7, 7, 7, 7, 7, 7, 7, 7, 7, 7, 7, 7, 7, 7, 7, 7, 7, 7, 7, 7, 7, 7, 7, 8, 8, 8, 8, 8, 8, 8, 8, 8, 8, 8, 8, 8, 8, 8, 8, 8, 8, 8, 8, 8, 8, 8, 8, 8, 8, 8, 8, 8, 8, 8, 8, 8, 8, 8, 8, 8, 8, 8, 8, 8, 8, 8, 8, 8, 8, 8, 8, 8, 8, 8, 8, 8, 8, 8, 8, 8, 8, 8, 8, 8, 8, 8, 8, 8, 8, 8, 8, 8, 8, 8, 8, 8, 8, 8, 8, 8, 8, 8, 8, 8, 8, 8, 8, 8, 8, 8, 8, 8, 8, 8, 8, 8, 8, 8, 8, 8, 8, 8, 8, 8, 8, 8, 8, 8, 8, 8, 8, 8, 8, 8, 8, 8, 8, 8, 8, 8, 8, 8, 8, 8, 8, 8, 8, 8, 8, 8, 8] : List UInt8)).getD ((IntKind.u8.wrap (Int.fdiv x0 (2 ^ 8))).toNat) 0).toNat : Int))))))
        else none
      else
        if 0 ≤ IntKind.u8.wrap (x0) ∧ IntKind.u8.wrap (x0) < ((([0, 1, 2, 2, 3, 3, 3, 3, 4, 4, 4, 4, 4, 4, 4, 4, 5, 5, 5, 5, 5, 5, 5, 5, 5, 5, 5, 5, 5, 5, 5, 5, 6, 6, 6, 6, 6, 6, 6, 6, 6, 6, 6, 6, 6, 6, 6, 6, 6, 6, 6, 6, 6, 6, 6, 6, 6, 6, 6, 6, 6, 6, 6, 6, 7, 7, 7, 7, 7, 7, 7, 7, 7, 7, 7, 7, 7, 7, 7, 7, 7, 7, 7, 7, 7, 7, 7, 7, 7, 7, 7, 7, 7, 7, 7, 7, 7, 7, 7, 7, 7, 7, 7, 7, 7, 7, 7, 7, 7, 7, 7, 7, 7, 7, 7, 7, 7, 7, 7, 7, 7, 7, 7, 7, 7, 7, 7, 7, 8, 8, 8, 8, 8, 8, 8, 8, 8, 8, 8, 8, 8, 8, 8, 8, 8, 8, 8, 8, 8, 8, 8, 8, 8, 8, 8, 8, 8, 8, 8, 8, 8, 8, 8, 8, 8, 8, 8, 8, 8, 8, 8, 8, 8, 8, 8, 8, 8, 8, 8, 8, 8, 8, 8, 8, 8, 8, 8, 8, 8, 8, 8, 8, 8, 8, 8, 8, 8, 8, 8, 8, 8, 8, 8, 8, 8, 8, 8, 8, 8, 8, 8, 8, 8, 8, 8, 8, 8, 8, 8, 8, 8, 8, 8, 8, 8, 8, 8, 8, 8, 8, 8, 8, 8, 8, 8, 8, 8, 8, 8, 8, 8, 8, 8, 8, 8, 8, 8, 8, 8, 8, 8, 8, 8, 8, 8, 8] : List UInt8)).length : Int) then
          some ((IntKind.i64.wrap (n2 + (IntKind.i64.wrap ((((([0, 1, 2, 2, 3, 3, 3, 3, 4, 4, 4, 4, 4, 4, 4, 4, 5, 5, 5, 5, 5, 5, 5, 5, 5, 5, 5, 5, 5, 5, 5, 5, 6, 6, 6, 6, 6, 6, 6, 6, 6, 6, 6, 6, 6, 6, 6, 6, 6, 6, 6, 6, 6, 6, 6, 6, 6, 6, 6, 6, 6, 6, 6, 6, 7, 7, 7, 7, 7, 7, 7, 7, 7, 7, 7, 7, 7, 7, 7, 7, 7, 7, 7, 7, 7, 7, 7, 7, 7, 7, 7, 7, 7, 7, 7, 7, 7, 7, 7, 7, 7, 7, 7, 7, 7, 7, 7, 7, 7, 7, 7, 7, 7, 7, 7, 7, 7, 7, 7, 7, 7, 7, 7, 7, 7, 7, 7, 7, 8, 8, 8, 8, 8, 8, 8, 8, 8, 8, 8, 8, 8, 8, 8, 8, 8, 8, 8, 8, 8, 8, 8, 8, 8, 8, 8, 8, 8, 8, 8, 8, 8, 8, 8, 8, 8, 8, 8, 8, 8, 8, 8, 8, 8, 8, 8, 8, 8, 8, 8, 8, 8, 8, 8, 8, 8, 8, 8, 8, 8, 8, 8, 8, 8, 8, 8, 8, 8, 8, 8, 8, 8, 8, 8, 8, 8, 8, 8, 8, 8, 8, 8, 8, 8, 8, 8, 8, 8, 8, 8, 8, 8, 8, 8, 8, 8, 8, 8, 8, 8, 8, 8, 8, 8, 8, 8, 8, 8, 8, 8, 8, 8, 8, 8, 8, 8, 8, 8, 8, 8, 8, 8, 8, 8, 8, 8, 8] : List UInt8)).getD ((IntKind.u8.wrap (x0)).toNat) 0).toNat : Int))))))
        else none

def bits_Len64.ins : Spec := ⟨25, 0, [], [0], (.cons (.v (.int .u64)) .nil)⟩
def bits_Len64.outs : List Spec := [⟨25, 0, [], [2], (.cons (.v I) .nil)⟩]
noncomputable def bits_Len64.c : Callee' := ⟨42, mkFits bits_Len64.ins bits_Len64.outs, mkFun bits_Len64.ins bits_Len64.outs bits_Len64⟩
theorem bits_Len64.quiet : FunQuiet bits_Len64.c.F := mkFun_quiet rfl rfl
noncomputable def bits_Len64.ann : Ann :=
  (.seq (.reg []) (.join [(.norm, ⟨25, 0, [], [0, 2], (.cons (.v (.int .u64)) (.cons (.v I) .nil))⟩)]
  (.seq (.reg []) (.cond (.seq (.reg []) (.reg [])) .std)) (.join [(.norm, ⟨25, 0, [], [0, 2], (.cons (.v (.int .u64)) (.cons (.v I) .nil))⟩)]
  (.seq (.reg []) (.cond (.seq (.reg []) (.reg [])) .std)) (.seq (.seq (.reg []) (.cond (.seq (.reg []) (.reg [])) .std)) (.seq (.reg []) .std)))))
noncomputable def bits_Len64.code : Code := match Try.f42.body with | some c => c | none => .skip
theorem bits_Len64.eq : absFn tt 25 bits_Len64.ins bits_Len64.outs bits_Len64.code bits_Len64.ann = bits_Len64 := by
  funext a
  kernel_rfl
theorem bits_Len64.ok : bits_Len64.ann.ok Try.prog 0 25 :=
  ann_ok (by kernel_rfl) (by kernel_rfl) (show ∀ c ∈ ([] : List Callee'), c.ok Try.prog from cs_nil)
    (show ∀ c ∈ ([] : List Callee'), FunQuiet c.F from cs_nil)
theorem bits_Len64.sound : bits_Len64.c.ok Try.prog := by
  refine ⟨?_, Try.f42, bits_Len64.code, Try.func42, rfl, by decide⟩
  have h := fn_sound tt_ok mix_ok (x := bits_Len64.ann) (ins := bits_Len64.ins) (outs := bits_Len64.outs) (N := 25) Try.func42 (c := bits_Len64.code) rfl rfl (by kernel_rfl) (by kernel_rfl) bits_Len64.ok (by decide)
  rw [bits_Len64.eq] at h
  exact h

/-! ### math/bits.Len: function 31 -/
noncomputable def bits_Len : Int → Option (Int) := fun x0 =>
  (bits_Len64 x0).bind fun r7 =>
    some r7

def bits_Len.ins : Spec := ⟨8, 0, [], [0], (.cons (.v (.int .u64)) .nil)⟩
def bits_Len.outs : List Spec := [⟨8, 0, [], [2], (.cons (.v I) .nil)⟩]
noncomputable def bits_Len.c : Callee' := ⟨31, mkFits bits_Len.ins bits_Len.outs, mkFun bits_Len.ins bits_Len.outs bits_Len⟩
theorem bits_Len.quiet : FunQuiet bits_Len.c.F := mkFun_quiet rfl rfl
noncomputable def bits_Len.ann : Ann :=
  (.seq (.reg []) (.seq (.cond (.seq (.reg []) .std) .std) (.seq (.reg [.std, .callq [bits_Len64.c]]) .std)))
noncomputable def bits_Len.code : Code := match Try.f31.body with | some c => c | none => .skip
theorem bits_Len.eq : absFn tt 8 bits_Len.ins bits_Len.outs bits_Len.code bits_Len.ann = bits_Len := by
  funext a
  kernel_rfl
theorem bits_Len.ok : bits_Len.ann.ok Try.prog 0 8 :=
  ann_ok (by kernel_rfl) (by kernel_rfl) (show ∀ c ∈ ([bits_Len64.c] : List Callee'), c.ok Try.prog from cs_cons bits_Len64.sound cs_nil)
    (show ∀ c ∈ ([bits_Len64.c] : List Callee'), FunQuiet c.F from cs_cons bits_Len64.quiet cs_nil)
theorem bits_Len.sound : bits_Len.c.ok Try.prog := by
  refine ⟨?_, Try.f31, bits_Len.code, Try.func31, rfl, by decide⟩
  have h := fn_sound tt_ok mix_ok (x := bits_Len.ann) (ins := bits_Len.ins) (outs := bits_Len.outs) (N := 8) Try.func31 (c := bits_Len.code) rfl rfl (by kernel_rfl) (by kernel_rfl) bits_Len.ok (by decide)
  rw [bits_Len.eq] at h
  exact h

/-! ### cmp.isNaN[int]: function 32 -/
noncomputable def cmp_isNaN_int : Int → Option (Bool) := fun x0 =>
  some (((x0 != x0)))

def cmp_isNaN_int.ins : Spec := ⟨6, 0, [], [0], (.cons (.v I) .nil)⟩
def cmp_isNaN_int.outs : List Spec := [⟨6, 0, [], [2], (.cons (.v .bool) .nil)⟩]
noncomputable def cmp_isNaN_int.c : Callee' := ⟨32, mkFits cmp_isNaN_int.ins cmp_isNaN_int.outs, mkFun cmp_isNaN_int.ins cmp_isNaN_int.outs cmp_isNaN_int⟩
theorem cmp_isNaN_int.quiet : FunQuiet cmp_isNaN_int.c.F := mkFun_quiet rfl rfl
noncomputable def cmp_isNaN_int.ann : Ann :=
  (.seq (.reg []) (.seq (.reg []) .std))
noncomputable def cmp_isNaN_int.code : Code := match Try.f32.body with | some c => c | none => .skip
theorem cmp_isNaN_int.eq : absFn tt 6 cmp_isNaN_int.ins cmp_isNaN_int.outs cmp_isNaN_int.code cmp_isNaN_int.ann = cmp_isNaN_int := by
  funext a
  kernel_rfl
theorem cmp_isNaN_int.ok : cmp_isNaN_int.ann.ok Try.prog 0 6 :=
  ann_ok (by kernel_rfl) (by kernel_rfl) (show ∀ c ∈ ([] : List Callee'), c.ok Try.prog from cs_nil)
    (show ∀ c ∈ ([] : List Callee'), FunQuiet c.F from cs_nil)
theorem cmp_isNaN_int.sound : cmp_isNaN_int.c.ok Try.prog := by
  refine ⟨?_, Try.f32, cmp_isNaN_int.code, Try.func32, rfl, by decide⟩
  have h := fn_sound tt_ok mix_ok (x := cmp_isNaN_int.ann) (ins := cmp_isNaN_int.ins) (outs := cmp_isNaN_int.outs) (N := 6) Try.func32 (c := cmp_isNaN_int.code) rfl rfl (by kernel_rfl) (by kernel_rfl) cmp_isNaN_int.ok (by decide)
  rw [cmp_isNaN_int.eq] at h
  exact h

/-! ### cmp.Compare[int]: function 27 -/
noncomputable def cmp_Compare_int : (Int × Int) → Option (Int) := fun (x0, y1) =>
  (cmp_isNaN_int x0).bind fun r8 =>
    (cmp_isNaN_int y1).bind fun r10 =>
      if r8 = true then
        if r10 = true then
          some 0
        else
          some (-1)
      else
        if r10 = true then
          some 1
        else
          if decide (x0 < y1) = true then
            some (-1)
          else
            if decide (x0 > y1) = true then
              some 1
            else
              some 0

def cmp_Compare_int.ins : Spec := ⟨20, 0, [], [0, 1], (.cons (.v I) (.cons (.v I) .nil))⟩
def cmp_Compare_int.outs : List Spec := [⟨20, 0, [], [4], (.cons (.v I) .nil)⟩]
noncomputable def cmp_Compare_int.c : Callee' := ⟨27, mkFits cmp_Compare_int.ins cmp_Compare_int.outs, mkFun cmp_Compare_int.ins cmp_Compare_int.outs cmp_Compare_int⟩
theorem cmp_Compare_int.quiet : FunQuiet cmp_Compare_int.c.F := mkFun_quiet rfl rfl
noncomputable def cmp_Compare_int.ann : Ann :=
  (.seq (.reg []) (.seq (.reg [.std, .callq [cmp_isNaN_int.c]]) (.seq (.reg [.std, .callq [cmp_isNaN_int.c]]) (.seq (.seq (.reg []) (.cond (.seq (.seq (.reg []) (.cond (.seq (.reg []) .std) .std)) (.seq (.reg []) .std)) .std)) (.seq (.seq (.reg []) (.cond (.seq (.reg []) .std) .std)) (.seq (.seq (.reg []) (.cond (.seq (.reg []) .std) .std)) (.seq (.seq (.reg []) (.cond (.seq (.reg []) .std) .std)) (.seq (.reg []) .std))))))))
noncomputable def cmp_Compare_int.code : Code := match Try.f27.body with | some c => c | none => .skip
theorem cmp_Compare_int.eq : absFn tt 20 cmp_Compare_int.ins cmp_Compare_int.outs cmp_Compare_int.code cmp_Compare_int.ann = cmp_Compare_int := by
  funext a
  kernel_rfl
theorem cmp_Compare_int.ok : cmp_Compare_int.ann.ok Try.prog 0 20 :=
  ann_ok (by kernel_rfl) (by kernel_rfl) (show ∀ c ∈ ([cmp_isNaN_int.c, cmp_isNaN_int.c] : List Callee'), c.ok Try.prog from cs_cons cmp_isNaN_int.sound (cs_cons cmp_isNaN_int.sound cs_nil))
    (show ∀ c ∈ ([cmp_isNaN_int.c, cmp_isNaN_int.c] : List Callee'), FunQuiet c.F from cs_cons cmp_isNaN_int.quiet (cs_cons cmp_isNaN_int.quiet cs_nil))
theorem cmp_Compare_int.sound : cmp_Compare_int.c.ok Try.prog := by
  refine ⟨?_, Try.f27, cmp_Compare_int.code, Try.func27, rfl, by decide⟩
  have h := fn_sound tt_ok mix_ok (x := cmp_Compare_int.ann) (ins := cmp_Compare_int.ins) (outs := cmp_Compare_int.outs) (N := 20) Try.func27 (c := cmp_Compare_int.code) rfl rfl (by kernel_rfl) (by kernel_rfl) cmp_Compare_int.ok (by decide)
  rw [cmp_Compare_int.eq] at h
  exact h

/-! ### wainwright/spans.Blocks: function 18 -/
noncomputable def spans_Blocks_1.l2 : ((List Int × Int × Int × Int) × (List (Int × Int × Int)) × Int × Int × Int × Int) → Option (((List Int × Int × Int × Int) × (List (Int × Int × Int)) × Int × Int × Int × Int) ⊕ (List Int × (List (Int × Int × Int)) × Int × Int)) := fun ((out3, s5a, s5b, s5c), t7, t8, t9, t16, t17) =>
  if decide (t17 < t16) = true then
    if roomOk (out3.length + (([IntKind.i64.wrap (s5b + t17)] : List Int)).length) 8 then
      some (.inl (((out3 ++ (([IntKind.i64.wrap (s5b + t17)] : List Int)), s5a, s5b, s5c), t7, t8, t9, t16, IntKind.i64.wrap (t17 + 1))))
    else none
  else
    some (.inr (((out3, t7, t8, t9))))

noncomputable def spans_Blocks_1.l1 : (List Int × (List (Int × Int × Int)) × Int × Int) → Option ((List Int × (List (Int × Int × Int)) × Int × Int) ⊕ (List Int)) := fun (out3, t7, t8, t9) =>
  if decide (t9 < t8) = true then
    if 0 ≤ t9 ∧ t9 < (t7.length : Int) then
      (loopO spans_Blocks_1.l2 (((out3, (t7.getD t9.toNat (0, (0, 0))).1, ((t7.getD t9.toNat (0, (0, 0))).2).1, ((t7.getD t9.toNat (0, (0, 0))).2).2), t7, t8, t9, (if 65536 < (if 0 > ((t7.getD t9.toNat (0, (0, 0))).2).2 then 0 else ((t7.getD t9.toNat (0, (0, 0))).2).2) then 65536 else (if 0 > ((t7.getD t9.toNat (0, (0, 0))).2).2 then 0 else ((t7.getD t9.toNat (0, (0, 0))).2).2)), 0))).bind fun (out3, t7, t8, t9) =>
        some (.inl ((out3, t7, t8, IntKind.i64.wrap (t9 + 1))))
    else none
  else
    some (.inr out3)

noncomputable def spans_Blocks_1 : (List (Int × Int × Int)) → Option (List Int) := fun l0 =>
  (loopO spans_Blocks_1.l1 (([], l0, (l0.length : Int), 0))).bind fun out3 =>
    some out3

def spans_Blocks_1.ins : Spec := ⟨30, 0, [], [0], (.cons (.v (.sl (.st (.pair I (.pair I I))))) .nil)⟩
def spans_Blocks_1.outs : List Spec := [⟨30, 0, [.arr I], [2], (.cons (.ref 0) .nil)⟩]
noncomputable def spans_Blocks_1.c : Callee' := ⟨18, mkFits spans_Blocks_1.ins spans_Blocks_1.outs, mkFun spans_Blocks_1.ins spans_Blocks_1.outs spans_Blocks_1⟩
noncomputable def spans_Blocks_1.ann : Ann :=
  (.seq (.reg []) (.seq (.reg []) (.seq (.seq (.reg []) (.block (.loop ⟨30, 0, [.arr I], [3, 7, 8, 9], (.cons (.ref 0) (.cons (.v (.sl (.st (.pair I (.pair I I))))) (.cons (.v I) (.cons (.v I) .nil))))⟩ [(.exit 0, ⟨30, 0, [.arr I], [3], (.cons (.ref 0) .nil)⟩)]
  (.seq (.reg []) (.seq (.cond .std .std) (.seq (.block (.seq (.reg []) (.seq (.reg []) (.block (.loop ⟨30, 0, [.arr I, .box (.cons (.v I) (.cons (.v I) (.cons (.v I) .nil)))], [3, 5, 7, 8, 9, 16, 17], (.cons (.ref 0) (.cons (.ref 1) (.cons (.v (.sl (.st (.pair I (.pair I I))))) (.cons (.v I) (.cons (.v I) (.cons (.v I) (.cons (.v I) .nil)))))))⟩ [(.exit 2, ⟨30, 0, [.arr I], [3, 7, 8, 9], (.cons (.ref 0) (.cons (.v (.sl (.st (.pair I (.pair I I))))) (.cons (.v I) (.cons (.v I) .nil))))⟩)]
  (.seq (.reg []) (.seq (.cond .std .std) (.seq (.block (.seq (.reg []) (.reg [.std, .std, .std, .std, .std, .inl I, .obj I]))) (.reg []))))))))) (.reg []))))))) (.seq (.reg []) .std))))
noncomputable def spans_Blocks_1.code : Code := match Try.f18.body with | some c => c | none => .skip
theorem spans_Blocks_1.eq : absFn tt 30 spans_Blocks_1.ins spans_Blocks_1.outs spans_Blocks_1.code spans_Blocks_1.ann = spans_Blocks_1 := by
  funext a
  kernel_rfl
theorem spans_Blocks_1.ok : spans_Blocks_1.ann.ok Try.prog 0 30 :=
  ann_ok (by kernel_rfl) (by kernel_rfl) (show ∀ c ∈ ([] : List Callee'), c.ok Try.prog from cs_nil)
    (show ∀ c ∈ ([] : List Callee'), FunQuiet c.F from cs_nil)
theorem spans_Blocks_1.sound : spans_Blocks_1.c.ok Try.prog := by
  refine ⟨?_, Try.f18, spans_Blocks_1.code, Try.func18, rfl, by decide⟩
  have h := fn_sound tt_ok mix_ok (x := spans_Blocks_1.ann) (ins := spans_Blocks_1.ins) (outs := spans_Blocks_1.outs) (N := 30) Try.func18 (c := spans_Blocks_1.code) rfl rfl (by kernel_rfl) (by kernel_rfl) spans_Blocks_1.ok (by decide)
  rw [spans_Blocks_1.eq] at h
  exact h

/-! ### slices.insertionSortCmpFunc[int]: function 33 -/
noncomputable def slices_insertionSortCmpFunc_int.l2 : (List Int × Int × Int × Int × Int) → Option ((List Int × Int × Int × Int × Int) ⊕ (List Int × Int × Int × Int)) := fun (data0, a1, b2, i8, j9) =>
  if decide (j9 > a1) = true then
    if 0 ≤ j9 ∧ j9 < (data0.length : Int) then
      if 0 ≤ IntKind.i64.wrap (j9 - 1) ∧ IntKind.i64.wrap (j9 - 1) < (data0.length : Int) then
        (cmp_Compare_int (data0.getD j9.toNat 0, data0.getD ((IntKind.i64.wrap (j9 - 1)).toNat) 0)).bind fun r32 =>
          if decide (r32 < 0) = true then
            if 0 ≤ IntKind.i64.wrap (j9 - 1) ∧ IntKind.i64.wrap (j9 - 1) < (data0.length : Int) then
              if 0 ≤ j9 ∧ j9 < (data0.length : Int) then
                if 0 ≤ j9 ∧ j9 < (data0.length : Int) then
                  if 0 ≤ IntKind.i64.wrap (j9 - 1) ∧ IntKind.i64.wrap (j9 - 1) < ((data0.set j9.toNat (data0.getD ((IntKind.i64.wrap (j9 - 1)).toNat) 0)).length : Int) then
                    some (.inl (((data0.set j9.toNat (data0.getD ((IntKind.i64.wrap (j9 - 1)).toNat) 0)).set ((IntKind.i64.wrap (j9 - 1)).toNat) (data0.getD j9.toNat 0), a1, b2, i8, IntKind.i64.wrap (j9 - 1))))
                  else none
                else none
              else none
            else none
          else
            some (.inr (((data0, a1, b2, i8))))
      else none
    else none
  else
    some (.inr (((data0, a1, b2, i8))))

noncomputable def slices_insertionSortCmpFunc_int.l1 : (List Int × Int × Int × Int) → Option ((List Int × Int × Int × Int) ⊕ (List Int)) := fun (data0, a1, b2, i8) =>
  if decide (i8 < b2) = true then
    (loopO slices_insertionSortCmpFunc_int.l2 ((data0, a1, b2, i8, i8))).bind fun (data0, a1, b2, i8) =>
      some (.inl ((data0, a1, b2, IntKind.i64.wrap (i8 + 1))))
  else
    some (.inr data0)

noncomputable def slices_insertionSortCmpFunc_int : (List Int × Int × Int) → Option (List Int) := fun (data0, a1, b2) =>
  (loopO slices_insertionSortCmpFunc_int.l1 ((data0, a1, b2, IntKind.i64.wrap (a1 + 1)))).bind fun o0 =>
    some o0

def slices_insertionSortCmpFunc_int.ins : Spec := ⟨53, 0, [.arr I], [0, 1, 2, 3], (.cons (.ref 0) (.cons (.v I) (.cons (.v I) (.cons (.fn (.func 27) .nil .nil) .nil))))⟩
def slices_insertionSortCmpFunc_int.outs : List Spec := [⟨53, 1, [.arr I], [], .nil⟩]
noncomputable def slices_insertionSortCmpFunc_int.c : Callee' := ⟨33, mkFits slices_insertionSortCmpFunc_int.ins slices_insertionSortCmpFunc_int.outs, mkFun slices_insertionSortCmpFunc_int.ins slices_insertionSortCmpFunc_int.outs slices_insertionSortCmpFunc_int⟩
noncomputable def slices_insertionSortCmpFunc_int.ann : Ann :=
  (.seq (.reg []) (.block (.loop ⟨53, 1, [.arr I], [0, 1, 2, 3, 8], (.cons (.ref 0) (.cons (.v I) (.cons (.v I) (.cons (.fn (.func 27) .nil .nil) (.cons (.v I) .nil)))))⟩ [(.exit 0, ⟨53, 1, [.arr I], [], .nil⟩)]
  (.seq (.seq (.reg []) (.cond .std .std)) (.seq (.block (.seq (.reg []) (.block (.loop ⟨53, 1, [.arr I], [0, 1, 2, 3, 8, 9], (.cons (.ref 0) (.cons (.v I) (.cons (.v I) (.cons (.fn (.func 27) .nil .nil) (.cons (.v I) (.cons (.v I) .nil))))))⟩ [(.exit 2, ⟨53, 1, [.arr I], [0, 1, 2, 3, 8], (.cons (.ref 0) (.cons (.v I) (.cons (.v I) (.cons (.fn (.func 27) .nil .nil) (.cons (.v I) .nil)))))⟩)]
  (.seq (.seq (.drw [.std, .std, .std, .std, .std, .std, .std, .std, .std, .std, .std, .std, .std, .std, .callq [cmp_Compare_int.c]]) (.cond .std .std)) (.seq (.block (.drw [])) (.reg []))))))) (.reg []))))))
noncomputable def slices_insertionSortCmpFunc_int.code : Code := match Try.f33.body with | some c => c | none => .skip
theorem slices_insertionSortCmpFunc_int.eq : absFn tt 53 slices_insertionSortCmpFunc_int.ins slices_insertionSortCmpFunc_int.outs slices_insertionSortCmpFunc_int.code slices_insertionSortCmpFunc_int.ann = slices_insertionSortCmpFunc_int := by
  funext a
  kernel_rfl
theorem slices_insertionSortCmpFunc_int.ok : slices_insertionSortCmpFunc_int.ann.ok Try.prog 1 53 :=
  ann_ok (by kernel_rfl) (by kernel_rfl) (show ∀ c ∈ ([cmp_Compare_int.c] : List Callee'), c.ok Try.prog from cs_cons cmp_Compare_int.sound cs_nil)
    (show ∀ c ∈ ([cmp_Compare_int.c] : List Callee'), FunQuiet c.F from cs_cons cmp_Compare_int.quiet cs_nil)
theorem slices_insertionSortCmpFunc_int.sound : slices_insertionSortCmpFunc_int.c.ok Try.prog := by
  refine ⟨?_, Try.f33, slices_insertionSortCmpFunc_int.code, Try.func33, rfl, by decide⟩
  have h := fn_sound tt_ok mix_ok (x := slices_insertionSortCmpFunc_int.ann) (ins := slices_insertionSortCmpFunc_int.ins) (outs := slices_insertionSortCmpFunc_int.outs) (N := 53) Try.func33 (c := slices_insertionSortCmpFunc_int.code) rfl rfl (by kernel_rfl) (by kernel_rfl) slices_insertionSortCmpFunc_int.ok (by decide)
  rw [slices_insertionSortCmpFunc_int.eq] at h
  exact h

/-! ### slices.pdqsortCmpFunc[int]: function 30 -/
noncomputable def slices_pdqsortCmpFunc_int.l1 : (List Int × Int × Int × Int × Bool × Bool) → Option ((List Int × Int × Int × Int × Bool × Bool) ⊕ (List Int)) := fun (data0, a1, b2, limit3, wasBalanced10, wasPartitioned11) =>
  if decide (IntKind.i64.wrap (b2 - a1) ≤ 12) = true then
    (slices_insertionSortCmpFunc_int (data0, a1, b2)).bind fun r30 =>
      some (.inr r30)
  else
    if (limit3 == 0) = true then none else
    ((
      if (!wasBalanced10) = true then none else
      some (((data0, a1, b2, limit3, wasBalanced10, wasPartitioned11, IntKind.i64.wrap (b2 - a1))))) : Option (List Int × Int × Int × Int × Bool × Bool × Int)).bind fun (data0, a1, b2, limit3, wasBalanced10, wasPartitioned11, length12) =>
      none

noncomputable def slices_pdqsortCmpFunc_int : (List Int × Int × Int × Int) → Option (List Int) := fun (data0, a1, b2, limit3) =>
  (loopO slices_pdqsortCmpFunc_int.l1 ((data0, a1, b2, limit3, true, true))).bind fun o0 =>
    some o0

def slices_pdqsortCmpFunc_int.ins : Spec := ⟨148, 0, [.arr I], [0, 1, 2, 3, 4], (.cons (.ref 0) (.cons (.v I) (.cons (.v I) (.cons (.v I) (.cons (.fn (.func 27) .nil .nil) .nil)))))⟩
def slices_pdqsortCmpFunc_int.outs : List Spec := [⟨148, 1, [.arr I], [], .nil⟩]
noncomputable def slices_pdqsortCmpFunc_int.c : Callee' := ⟨30, mkFits slices_pdqsortCmpFunc_int.ins slices_pdqsortCmpFunc_int.outs, mkFun slices_pdqsortCmpFunc_int.ins slices_pdqsortCmpFunc_int.outs slices_pdqsortCmpFunc_int⟩
noncomputable def slices_pdqsortCmpFunc_int.ann : Ann :=
  (.seq (.reg []) (.seq (.reg []) (.block (.loop ⟨148, 1, [.arr I], [0, 1, 2, 3, 4, 10, 11], (.cons (.ref 0) (.cons (.v I) (.cons (.v I) (.cons (.v I) (.cons (.fn (.func 27) .nil .nil) (.cons (.v .bool) (.cons (.v .bool) .nil)))))))⟩ [(.ret, ⟨148, 1, [.arr I], [], .nil⟩)]
  (.block (.seq (.reg []) (.seq (.seq (.reg []) (.cond (.seq (.reg [.std, .std, .std, .std, .call [slices_insertionSortCmpFunc_int.c]]) .std) .std)) (.seq (.seq (.reg []) (.cond (.seq (.reg []) .std) .std)) (.join [(.norm, ⟨148, 1, [.arr I], [0, 1, 2, 3, 4, 10, 11, 12], (.cons (.ref 0) (.cons (.v I) (.cons (.v I) (.cons (.v I) (.cons (.fn (.func 27) .nil .nil) (.cons (.v .bool) (.cons (.v .bool) (.cons (.v I) .nil))))))))⟩)]
  (.seq (.reg []) (.cond (.seq (.reg []) (.reg [])) .std)) (.seq (.reg []) (.join []
  (.seq (.reg []) (.cond (.seq (.reg []) (.seq (.reg []) (.reg []))) .std)) (.join []
  (.join []
  (.reg []) (.cond (.seq (.reg []) (.cond .std .std)) .std)) (.seq (.join []
  (.drw []) (.cond (.seq (.reg []) (.seq (.reg []) .std)) .std)) (.seq (.reg []) (.seq (.reg []) (.seq (.reg []) (.seq (.reg []) (.seq (.reg []) (.cond (.seq (.reg []) (.seq (.reg []) (.reg []))) (.seq (.reg []) (.seq (.reg []) (.reg []))))))))))))))))))))))
noncomputable def slices_pdqsortCmpFunc_int.code : Code := match Try.f30.body with | some c => c | none => .skip
theorem slices_pdqsortCmpFunc_int.eq : absFn tt 148 slices_pdqsortCmpFunc_int.ins slices_pdqsortCmpFunc_int.outs slices_pdqsortCmpFunc_int.code slices_pdqsortCmpFunc_int.ann = slices_pdqsortCmpFunc_int := by
  funext a
  kernel_rfl
theorem slices_pdqsortCmpFunc_int.ok : slices_pdqsortCmpFunc_int.ann.ok Try.prog 1 148 :=
  ann_ok (by kernel_rfl) (by kernel_rfl) (show ∀ c ∈ ([slices_insertionSortCmpFunc_int.c] : List Callee'), c.ok Try.prog from cs_cons slices_insertionSortCmpFunc_int.sound cs_nil)
    (show ∀ c ∈ ([] : List Callee'), FunQuiet c.F from cs_nil)
theorem slices_pdqsortCmpFunc_int.sound : slices_pdqsortCmpFunc_int.c.ok Try.prog := by
  refine ⟨?_, Try.f30, slices_pdqsortCmpFunc_int.code, Try.func30, rfl, by decide⟩
  have h := fn_sound tt_ok mix_ok (x := slices_pdqsortCmpFunc_int.ann) (ins := slices_pdqsortCmpFunc_int.ins) (outs := slices_pdqsortCmpFunc_int.outs) (N := 148) Try.func30 (c := slices_pdqsortCmpFunc_int.code) rfl rfl (by kernel_rfl) (by kernel_rfl) slices_pdqsortCmpFunc_int.ok (by decide)
  rw [slices_pdqsortCmpFunc_int.eq] at h
  exact h

/-! ### slices.SortFunc[[]int,int]: function 26 -/
noncomputable def slices_SortFunc_int_int : List Int → Option (List Int) := fun x0 =>
  (bits_Len (IntKind.u64.wrap ((x0.length : Int)))).bind fun r11 =>
    (slices_pdqsortCmpFunc_int (x0, 0, (x0.length : Int), r11)).bind fun r13 =>
      some r13

def slices_SortFunc_int_int.ins : Spec := ⟨14, 0, [.arr I], [0, 1], (.cons (.ref 0) (.cons (.fn (.func 27) .nil .nil) .nil))⟩
def slices_SortFunc_int_int.outs : List Spec := [⟨14, 1, [.arr I], [], .nil⟩]
noncomputable def slices_SortFunc_int_int.c : Callee' := ⟨26, mkFits slices_SortFunc_int_int.ins slices_SortFunc_int_int.outs, mkFun slices_SortFunc_int_int.ins slices_SortFunc_int_int.outs slices_SortFunc_int_int⟩
noncomputable def slices_SortFunc_int_int.ann : Ann :=
  (.seq (.reg []) (.reg [.std, .std, .std, .std, .callq [bits_Len.c], .std, .call [slices_pdqsortCmpFunc_int.c]]))
noncomputable def slices_SortFunc_int_int.code : Code := match Try.f26.body with | some c => c | none => .skip
theorem slices_SortFunc_int_int.eq : absFn tt 14 slices_SortFunc_int_int.ins slices_SortFunc_int_int.outs slices_SortFunc_int_int.code slices_SortFunc_int_int.ann = slices_SortFunc_int_int := by
  funext a
  kernel_rfl
theorem slices_SortFunc_int_int.ok : slices_SortFunc_int_int.ann.ok Try.prog 1 14 :=
  ann_ok (by kernel_rfl) (by kernel_rfl) (show ∀ c ∈ ([bits_Len.c, slices_pdqsortCmpFunc_int.c] : List Callee'), c.ok Try.prog from cs_cons bits_Len.sound (cs_cons slices_pdqsortCmpFunc_int.sound cs_nil))
    (show ∀ c ∈ ([bits_Len.c] : List Callee'), FunQuiet c.F from cs_cons bits_Len.quiet cs_nil)
theorem slices_SortFunc_int_int.sound : slices_SortFunc_int_int.c.ok Try.prog := by
  refine ⟨?_, Try.f26, slices_SortFunc_int_int.code, Try.func26, rfl, by decide⟩
  have h := fn_sound tt_ok mix_ok (x := slices_SortFunc_int_int.ann) (ins := slices_SortFunc_int_int.ins) (outs := slices_SortFunc_int_int.outs) (N := 14) Try.func26 (c := slices_SortFunc_int_int.code) rfl rfl (by kernel_rfl) (by kernel_rfl) slices_SortFunc_int_int.ok (by decide)
  rw [slices_SortFunc_int_int.eq] at h
  exact h

/-! ### slices.Clone[[]int,int]: function 29 -/
noncomputable def slices_Clone_int_int : List Int → Option (List Int) := fun s0 =>
  if s0.isEmpty = true then
    agree (
      some []) (
      if roomOk ((([] : List Int)).length + s0.length) 8 then
        some (((([] : List Int)) ++ s0))
      else none)
  else
    if roomOk ((([] : List Int)).length + s0.length) 8 then
      some (((([] : List Int)) ++ s0))
    else none

def slices_Clone_int_int.ins : Spec := ⟨8, 0, [], [0], (.cons (.v (.sl I)) .nil)⟩
def slices_Clone_int_int.outs : List Spec := [⟨8, 0, [], [2], (.cons (.v (.sl I)) .nil)⟩]
noncomputable def slices_Clone_int_int.c : Callee' := ⟨29, mkFits slices_Clone_int_int.ins slices_Clone_int_int.outs, mkFun slices_Clone_int_int.ins slices_Clone_int_int.outs slices_Clone_int_int⟩
theorem slices_Clone_int_int.quiet : FunQuiet slices_Clone_int_int.c.F := mkFun_quiet rfl rfl
noncomputable def slices_Clone_int_int.ann : Ann :=
  (.seq (.reg []) (.seq (.seq (.reg [.std, .obj .bool]) (.cond (.seq (.reg []) .std) .std)) (.seq (.reg [.obj I, .std, .obj I]) .std)))
noncomputable def slices_Clone_int_int.code : Code := match Try.f29.body with | some c => c | none => .skip
theorem slices_Clone_int_int.eq : absFn tt 8 slices_Clone_int_int.ins slices_Clone_int_int.outs slices_Clone_int_int.code slices_Clone_int_int.ann = slices_Clone_int_int := by
  funext a
  kernel_rfl
theorem slices_Clone_int_int.ok : slices_Clone_int_int.ann.ok Try.prog 0 8 :=
  ann_ok (by kernel_rfl) (by kernel_rfl) (show ∀ c ∈ ([] : List Callee'), c.ok Try.prog from cs_nil)
    (show ∀ c ∈ ([] : List Callee'), FunQuiet c.F from cs_nil)
theorem slices_Clone_int_int.sound : slices_Clone_int_int.c.ok Try.prog := by
  refine ⟨?_, Try.f29, slices_Clone_int_int.code, Try.func29, rfl, by decide⟩
  have h := fn_sound tt_ok mix_ok (x := slices_Clone_int_int.ann) (ins := slices_Clone_int_int.ins) (outs := slices_Clone_int_int.outs) (N := 8) Try.func29 (c := slices_Clone_int_int.code) rfl rfl (by kernel_rfl) (by kernel_rfl) slices_Clone_int_int.ok (by decide)
  rw [slices_Clone_int_int.eq] at h
  exact h

/-! ### slices.Clone[[]int,int]: function 29 -/
noncomputable def slices_Clone_int_int_1 : List Int → Option (List Int) := fun s0 =>
  if s0.isEmpty = true then
    agree (
      some []) (
      if roomOk ((([] : List Int)).length + s0.length) 8 then
        some (((([] : List Int)) ++ s0))
      else none)
  else
    if roomOk ((([] : List Int)).length + s0.length) 8 then
      some (((([] : List Int)) ++ s0))
    else none

def slices_Clone_int_int_1.ins : Spec := ⟨8, 0, [], [0], (.cons (.v (.sl I)) .nil)⟩
def slices_Clone_int_int_1.outs : List Spec := [⟨8, 0, [.arr I], [2], (.cons (.ref 0) .nil)⟩]
noncomputable def slices_Clone_int_int_1.c : Callee' := ⟨29, mkFits slices_Clone_int_int_1.ins slices_Clone_int_int_1.outs, mkFun slices_Clone_int_int_1.ins slices_Clone_int_int_1.outs slices_Clone_int_int_1⟩
noncomputable def slices_Clone_int_int_1.ann : Ann :=
  (.seq (.reg []) (.seq (.seq (.reg [.std, .obj .bool]) (.cond (.seq (.reg []) .std) .std)) (.seq (.reg [.obj I, .std, .obj I]) .std)))
noncomputable def slices_Clone_int_int_1.code : Code := match Try.f29.body with | some c => c | none => .skip
theorem slices_Clone_int_int_1.eq : absFn tt 8 slices_Clone_int_int_1.ins slices_Clone_int_int_1.outs slices_Clone_int_int_1.code slices_Clone_int_int_1.ann = slices_Clone_int_int_1 := by
  funext a
  kernel_rfl
theorem slices_Clone_int_int_1.ok : slices_Clone_int_int_1.ann.ok Try.prog 0 8 :=
  ann_ok (by kernel_rfl) (by kernel_rfl) (show ∀ c ∈ ([] : List Callee'), c.ok Try.prog from cs_nil)
    (show ∀ c ∈ ([] : List Callee'), FunQuiet c.F from cs_nil)
theorem slices_Clone_int_int_1.sound : slices_Clone_int_int_1.c.ok Try.prog := by
  refine ⟨?_, Try.f29, slices_Clone_int_int_1.code, Try.func29, rfl, by decide⟩
  have h := fn_sound tt_ok mix_ok (x := slices_Clone_int_int_1.ann) (ins := slices_Clone_int_int_1.ins) (outs := slices_Clone_int_int_1.outs) (N := 8) Try.func29 (c := slices_Clone_int_int_1.code) rfl rfl (by kernel_rfl) (by kernel_rfl) slices_Clone_int_int_1.ok (by decide)
  rw [slices_Clone_int_int_1.eq] at h
  exact h

/-! ### slices.Compact[[]int,int]: function 28 -/
noncomputable def slices_Compact_int_int.l2 : (List Int × Int × Int × Nat × Nat) → Option ((List Int × Int × Int × Nat × Nat) ⊕ (List Int × Int)) := fun (s0, k3, k25, s24o, s24n) =>
  if decide (k25 < (s24n : Int)) = true then
    if 0 ≤ k25 ∧ k25 < (s24n : Int) then
      if 0 ≤ IntKind.i64.wrap (k25 - 1) ∧ IntKind.i64.wrap (k25 - 1) < (s24n : Int) then
        if (s0.getD ((s24o + k25.toNat)) 0 != s0.getD ((s24o + (IntKind.i64.wrap (k25 - 1)).toNat)) 0) = true then
          if 0 ≤ k25 ∧ k25 < (s24n : Int) then
            if 0 ≤ k3 ∧ k3 < (s0.length : Int) then
              some (.inl ((s0.set k3.toNat (s0.getD ((s24o + k25.toNat)) 0), IntKind.i64.wrap (k3 + 1), IntKind.i64.wrap (k25 + 1), s24o, s24n)))
            else none
          else none
        else
          some (.inl ((s0, k3, IntKind.i64.wrap (k25 + 1), s24o, s24n)))
      else none
    else none
  else
    some (.inr (((s0, k3))))

noncomputable def slices_Compact_int_int.l1 : (List Int × Int) → Option ((List Int × Int) ⊕ ((List Int) ⊕ (List Int × Nat × Nat))) := fun (s0, k3) =>
  if decide (k3 < (s0.length : Int)) = true then
    if 0 ≤ k3 ∧ k3 < (s0.length : Int) then
      if 0 ≤ IntKind.i64.wrap (k3 - 1) ∧ IntKind.i64.wrap (k3 - 1) < (s0.length : Int) then
        if (s0.getD k3.toNat 0 == s0.getD ((IntKind.i64.wrap (k3 - 1)).toNat) 0) = true then
          if 0 ≤ k3 ∧ k3 ≤ (s0.length : Int) then
            (loopO slices_Compact_int_int.l2 ((s0, k3, 1, k3.toNat, ((s0.length : Int) - k3).toNat))).bind fun (s0, k3) =>
              if 0 ≤ k3 ∧ k3 ≤ (s0.length : Int) then
                if 0 ≤ k3 ∧ k3 ≤ ((s0.take k3.toNat ++ List.replicate (((s0.length : Int) - k3).toNat) (0 : Int) ++ s0.drop (k3.toNat + ((s0.length : Int) - k3).toNat)).length : Int) then
                  some (.inr (.inr (((s0.take k3.toNat ++ List.replicate (((s0.length : Int) - k3).toNat) (0 : Int) ++ s0.drop (k3.toNat + ((s0.length : Int) - k3).toNat), 0, (k3 - 0).toNat)))))
                else none
              else none
          else none
        else
          some (.inl ((s0, IntKind.i64.wrap (k3 + 1))))
      else none
    else none
  else
    some (.inr (.inl s0))

noncomputable def slices_Compact_int_int : List Int → Option (List Int) := fun s0 =>
  if decide ((s0.length : Int) < 2) = true then
    some s0
  else
    (loopO slices_Compact_int_int.l1 ((s0, 1))).bind fun d => match d with
    | .inl s0 =>
      some s0
    | .inr ((o0, t2o, t2n)) =>
      some ((((o0).drop t2o).take t2n))

def slices_Compact_int_int.ins : Spec := ⟨61, 0, [.arr I], [0], (.cons (.ref 0) .nil)⟩
def slices_Compact_int_int.outs : List Spec := [⟨61, 1, [.dead], [2], (.cons (.v (.sl I)) .nil)⟩]
noncomputable def slices_Compact_int_int.c : Callee' := ⟨28, mkFits slices_Compact_int_int.ins slices_Compact_int_int.outs, mkFun slices_Compact_int_int.ins slices_Compact_int_int.outs slices_Compact_int_int⟩
noncomputable def slices_Compact_int_int.ann : Ann :=
  (.seq (.reg []) (.seq (.seq (.reg []) (.cond (.seq (.reg []) .std) .std)) (.seq (.seq (.reg []) (.block (.loop ⟨61, 1, [.arr I], [0, 3], (.cons (.ref 0) (.cons (.v I) .nil))⟩ [(.exit 0, ⟨61, 1, [.arr I], [0], (.cons (.ref 0) .nil)⟩), (.ret, ⟨61, 1, [.arr I], [2], (.cons (.part 0) .nil)⟩)]
  (.seq (.seq (.reg []) (.cond .std .std)) (.seq (.block (.seq (.drw []) (.cond (.seq (.reg []) (.seq (.seq (.reg []) (.block (.loop ⟨61, 1, [.arr I], [0, 3, 5, 4], (.cons (.ref 0) (.cons (.v I) (.cons (.v I) (.cons (.part 0) .nil))))⟩ [(.exit 2, ⟨61, 1, [.arr I], [0, 3], (.cons (.ref 0) (.cons (.v I) .nil))⟩)]
  (.seq (.seq (.reg []) (.cond .std .std)) (.seq (.block (.seq (.drw []) (.cond (.seq (.reg []) (.reg [])) .std))) (.reg [])))))) (.seq (.reg []) (.seq (.reg []) .std)))) .std))) (.reg [])))))) (.seq (.reg []) .std))))
noncomputable def slices_Compact_int_int.code : Code := match Try.f28.body with | some c => c | none => .skip
theorem slices_Compact_int_int.eq : absFn tt 61 slices_Compact_int_int.ins slices_Compact_int_int.outs slices_Compact_int_int.code slices_Compact_int_int.ann = slices_Compact_int_int := by
  funext a
  kernel_rfl
theorem slices_Compact_int_int.ok : slices_Compact_int_int.ann.ok Try.prog 1 61 :=
  ann_ok (by kernel_rfl) (by kernel_rfl) (show ∀ c ∈ ([] : List Callee'), c.ok Try.prog from cs_nil)
    (show ∀ c ∈ ([] : List Callee'), FunQuiet c.F from cs_nil)
theorem slices_Compact_int_int.sound : slices_Compact_int_int.c.ok Try.prog := by
  refine ⟨?_, Try.f28, slices_Compact_int_int.code, Try.func28, rfl, by decide⟩
  have h := fn_sound tt_ok mix_ok (x := slices_Compact_int_int.ann) (ins := slices_Compact_int_int.ins) (outs := slices_Compact_int_int.outs) (N := 61) Try.func28 (c := slices_Compact_int_int.code) rfl rfl (by kernel_rfl) (by kernel_rfl) slices_Compact_int_int.ok (by decide)
  rw [slices_Compact_int_int.eq] at h
  exact h

/-! ### wainwright/spans.Apart: function 20 -/
noncomputable def spans_Apart : (List (Int × Int × Int)) → Option (Bool) := fun l0 =>
  (spans_Blocks_1 l0).bind fun r5 =>
    (slices_SortFunc_int_int r5).bind fun r7 =>
      (slices_Clone_int_int_1 r7).bind fun r9 =>
        (slices_Compact_int_int r9).bind fun r10 =>
          some ((((r10.length : Int) == (r7.length : Int))))

def spans_Apart.ins : Spec := ⟨15, 0, [], [0], (.cons (.v (.sl (.st (.pair I (.pair I I))))) .nil)⟩
def spans_Apart.outs : List Spec := [⟨15, 0, [], [2], (.cons (.v .bool) .nil)⟩]
noncomputable def spans_Apart.c : Callee' := ⟨20, mkFits spans_Apart.ins spans_Apart.outs, mkFun spans_Apart.ins spans_Apart.outs spans_Apart⟩
theorem spans_Apart.quiet : FunQuiet spans_Apart.c.F := mkFun_quiet rfl rfl
noncomputable def spans_Apart.ann : Ann :=
  (.seq (.reg []) (.seq (.reg [.std, .call [spans_Blocks_1.c]]) (.seq (.reg [.std, .call [slices_SortFunc_int_int.c]]) (.seq (.reg [.std, .call [slices_Clone_int_int_1.c], .call [slices_Compact_int_int.c]]) .std))))
noncomputable def spans_Apart.code : Code := match Try.f20.body with | some c => c | none => .skip
theorem spans_Apart.eq : absFn tt 15 spans_Apart.ins spans_Apart.outs spans_Apart.code spans_Apart.ann = spans_Apart := by
  funext a
  kernel_rfl
theorem spans_Apart.ok : spans_Apart.ann.ok Try.prog 0 15 :=
  ann_ok (by kernel_rfl) (by kernel_rfl) (show ∀ c ∈ ([spans_Blocks_1.c, slices_SortFunc_int_int.c, slices_Clone_int_int_1.c, slices_Compact_int_int.c] : List Callee'), c.ok Try.prog from cs_cons spans_Blocks_1.sound (cs_cons slices_SortFunc_int_int.sound (cs_cons slices_Clone_int_int_1.sound (cs_cons slices_Compact_int_int.sound cs_nil))))
    (show ∀ c ∈ ([] : List Callee'), FunQuiet c.F from cs_nil)
theorem spans_Apart.sound : spans_Apart.c.ok Try.prog := by
  refine ⟨?_, Try.f20, spans_Apart.code, Try.func20, rfl, by decide⟩
  have h := fn_sound tt_ok mix_ok (x := spans_Apart.ann) (ins := spans_Apart.ins) (outs := spans_Apart.outs) (N := 15) Try.func20 (c := spans_Apart.code) rfl rfl (by kernel_rfl) (by kernel_rfl) spans_Apart.ok (by decide)
  rw [spans_Apart.eq] at h
  exact h

/-! ### wainwright/wainwrightlaw04.lives: function 7 -/
noncomputable def wainwrightlaw04_lives : Unit → Option (Bool) := fun _ =>
  (spans_Of ([7, 8, 0, 9, 10] : List Int)).bind fun r3 =>
    if ((r3.length : Int) == 2) = true then
      if 0 ≤ (0 : Int) ∧ (0 : Int) < (r3.length : Int) then
        if (((r3.getD 0 (0, (0, 0))).1 == 0) && ((((r3.getD 0 (0, (0, 0))).2).1 == 7) && (((r3.getD 0 (0, (0, 0))).2).2 == 2))) = true then
          if 0 ≤ (1 : Int) ∧ (1 : Int) < (r3.length : Int) then
            if (((r3.getD 1 (0, (0, 0))).1 == 3) && ((((r3.getD 1 (0, (0, 0))).2).1 == 9) && (((r3.getD 1 (0, (0, 0))).2).2 == 2))) = true then
              (spans_Right r3).bind fun r23 =>
                if r23 = true then
                  (spans_At (r3, 4)).bind fun r27 =>
                    if (r27 == 10) = true then
                      (spans_Apart r3).bind fun r32 =>
                        some r32
                    else
                      some false
                else
                  some false
            else
              some false
          else none
        else
          some false
      else none
    else
      some false

def wainwrightlaw04_lives.ins : Spec := ⟨34, 0, [], [], .nil⟩
def wainwrightlaw04_lives.outs : List Spec := [⟨34, 0, [], [0], (.cons (.v .bool) .nil)⟩]
noncomputable def wainwrightlaw04_lives.c : Callee' := ⟨7, mkFits wainwrightlaw04_lives.ins wainwrightlaw04_lives.outs, mkFun wainwrightlaw04_lives.ins wainwrightlaw04_lives.outs wainwrightlaw04_lives⟩
theorem wainwrightlaw04_lives.quiet : FunQuiet wainwrightlaw04_lives.c.F := mkFun_quiet rfl rfl
noncomputable def wainwrightlaw04_lives.ann : Ann :=
  (.seq (.reg []) (.seq (.reg [.inl I, .callq [spans_Of.c]]) (.seq (.reg [.std, .std, .std, .std, .std, .std, .std, .std, .eqs 39, .std, .std, .std, .std, .std, .std, .eqs 39, .std, .std, .std, .callq [spans_Right.c], .std, .std, .std, .callq [spans_At.c], .std, .std, .std, .std, .callq [spans_Apart.c]]) .std)))
noncomputable def wainwrightlaw04_lives.code : Code := match Try.f7.body with | some c => c | none => .skip
theorem wainwrightlaw04_lives.eq : absFn tt 34 wainwrightlaw04_lives.ins wainwrightlaw04_lives.outs wainwrightlaw04_lives.code wainwrightlaw04_lives.ann = wainwrightlaw04_lives := by
  funext a
  kernel_rfl
theorem wainwrightlaw04_lives.ok : wainwrightlaw04_lives.ann.ok Try.prog 0 34 :=
  ann_ok (by kernel_rfl) (by kernel_rfl) (show ∀ c ∈ ([spans_Of.c, spans_Right.c, spans_At.c, spans_Apart.c] : List Callee'), c.ok Try.prog from cs_cons spans_Of.sound (cs_cons spans_Right.sound (cs_cons spans_At.sound (cs_cons spans_Apart.sound cs_nil))))
    (show ∀ c ∈ ([spans_Of.c, spans_Right.c, spans_At.c, spans_Apart.c] : List Callee'), FunQuiet c.F from cs_cons spans_Of.quiet (cs_cons spans_Right.quiet (cs_cons spans_At.quiet (cs_cons spans_Apart.quiet cs_nil))))
theorem wainwrightlaw04_lives.sound : wainwrightlaw04_lives.c.ok Try.prog := by
  refine ⟨?_, Try.f7, wainwrightlaw04_lives.code, Try.func7, rfl, by decide⟩
  have h := fn_sound tt_ok mix_ok (x := wainwrightlaw04_lives.ann) (ins := wainwrightlaw04_lives.ins) (outs := wainwrightlaw04_lives.outs) (N := 34) Try.func7 (c := wainwrightlaw04_lives.code) rfl rfl (by kernel_rfl) (by kernel_rfl) wainwrightlaw04_lives.ok (by decide)
  rw [wainwrightlaw04_lives.eq] at h
  exact h

/-! ### wainwright/wainwrightlaw04.early: function 8 -/
noncomputable def wainwrightlaw04_early : List Int → Option (List Int) := fun m0 =>
  if 0 ≤ (if 300 < (m0.length : Int) then 300 else (m0.length : Int)) ∧ (if 300 < (m0.length : Int) then 300 else (m0.length : Int)) ≤ (m0.length : Int) then
    some ((m0.take ((if 300 < (m0.length : Int) then 300 else (m0.length : Int))).toNat))
  else none

def wainwrightlaw04_early.ins : Spec := ⟨8, 0, [], [0], (.cons (.v (.sl I)) .nil)⟩
def wainwrightlaw04_early.outs : List Spec := [⟨8, 0, [], [2], (.cons (.v (.sl I)) .nil)⟩]
noncomputable def wainwrightlaw04_early.c : Callee' := ⟨8, mkFits wainwrightlaw04_early.ins wainwrightlaw04_early.outs, mkFun wainwrightlaw04_early.ins wainwrightlaw04_early.outs wainwrightlaw04_early⟩
theorem wainwrightlaw04_early.quiet : FunQuiet wainwrightlaw04_early.c.F := mkFun_quiet rfl rfl
noncomputable def wainwrightlaw04_early.ann : Ann :=
  (.seq (.reg []) (.seq (.reg []) .std))
noncomputable def wainwrightlaw04_early.code : Code := match Try.f8.body with | some c => c | none => .skip
theorem wainwrightlaw04_early.eq : absFn tt 8 wainwrightlaw04_early.ins wainwrightlaw04_early.outs wainwrightlaw04_early.code wainwrightlaw04_early.ann = wainwrightlaw04_early := by
  funext a
  kernel_rfl
theorem wainwrightlaw04_early.ok : wainwrightlaw04_early.ann.ok Try.prog 0 8 :=
  ann_ok (by kernel_rfl) (by kernel_rfl) (show ∀ c ∈ ([] : List Callee'), c.ok Try.prog from cs_nil)
    (show ∀ c ∈ ([] : List Callee'), FunQuiet c.F from cs_nil)
theorem wainwrightlaw04_early.sound : wainwrightlaw04_early.c.ok Try.prog := by
  refine ⟨?_, Try.f8, wainwrightlaw04_early.code, Try.func8, rfl, by decide⟩
  have h := fn_sound tt_ok mix_ok (x := wainwrightlaw04_early.ann) (ins := wainwrightlaw04_early.ins) (outs := wainwrightlaw04_early.outs) (N := 8) Try.func8 (c := wainwrightlaw04_early.code) rfl rfl (by kernel_rfl) (by kernel_rfl) wainwrightlaw04_early.ok (by decide)
  rw [wainwrightlaw04_early.eq] at h
  exact h

/-! ### wainwright/wainwrightlaw04.few: function 9 -/
noncomputable def wainwrightlaw04_few.l1 : ((List (Int × Int × Int)) × (List (Int × Int × Int)) × Int) → Option (((List (Int × Int × Int)) × (List (Int × Int × Int)) × Int) ⊕ (List (Int × Int × Int))) := fun (out3, l0, i4) =>
  if decide (i4 < (l0.length : Int)) = true then
    if decide (i4 < 8) = true then
      if 0 ≤ i4 ∧ i4 < (l0.length : Int) then
        if roomOk (out3.length + (([((if 70000 < (if (-1000) > (l0.getD i4.toNat (0, (0, 0))).1 then (-1000) else (l0.getD i4.toNat (0, (0, 0))).1) then 70000 else (if (-1000) > (l0.getD i4.toNat (0, (0, 0))).1 then (-1000) else (l0.getD i4.toNat (0, (0, 0))).1)), (if 70000 < (if (-1000) > ((l0.getD i4.toNat (0, (0, 0))).2).1 then (-1000) else ((l0.getD i4.toNat (0, (0, 0))).2).1) then 70000 else (if (-1000) > ((l0.getD i4.toNat (0, (0, 0))).2).1 then (-1000) else ((l0.getD i4.toNat (0, (0, 0))).2).1)), (if 300 < ((l0.getD i4.toNat (0, (0, 0))).2).2 then 300 else ((l0.getD i4.toNat (0, (0, 0))).2).2))] : List (Int × Int × Int))).length) 24 then
          some (.inl ((out3 ++ (([((if 70000 < (if (-1000) > (l0.getD i4.toNat (0, (0, 0))).1 then (-1000) else (l0.getD i4.toNat (0, (0, 0))).1) then 70000 else (if (-1000) > (l0.getD i4.toNat (0, (0, 0))).1 then (-1000) else (l0.getD i4.toNat (0, (0, 0))).1)), (if 70000 < (if (-1000) > ((l0.getD i4.toNat (0, (0, 0))).2).1 then (-1000) else ((l0.getD i4.toNat (0, (0, 0))).2).1) then 70000 else (if (-1000) > ((l0.getD i4.toNat (0, (0, 0))).2).1 then (-1000) else ((l0.getD i4.toNat (0, (0, 0))).2).1)), (if 300 < ((l0.getD i4.toNat (0, (0, 0))).2).2 then 300 else ((l0.getD i4.toNat (0, (0, 0))).2).2))] : List (Int × Int × Int))), l0, IntKind.i64.wrap (i4 + 1))))
        else none
      else none
    else
      some (.inr out3)
  else
    some (.inr out3)

noncomputable def wainwrightlaw04_few : (List (Int × Int × Int)) → Option (List (Int × Int × Int)) := fun l0 =>
  (loopO wainwrightlaw04_few.l1 (([], l0, 0))).bind fun out3 =>
    some out3

def wainwrightlaw04_few.ins : Spec := ⟨39, 0, [], [0], (.cons (.v (.sl (.st (.pair I (.pair I I))))) .nil)⟩
def wainwrightlaw04_few.outs : List Spec := [⟨39, 0, [], [2], (.cons (.v (.sl (.st (.pair I (.pair I I))))) .nil)⟩]
noncomputable def wainwrightlaw04_few.c : Callee' := ⟨9, mkFits wainwrightlaw04_few.ins wainwrightlaw04_few.outs, mkFun wainwrightlaw04_few.ins wainwrightlaw04_few.outs wainwrightlaw04_few⟩
theorem wainwrightlaw04_few.quiet : FunQuiet wainwrightlaw04_few.c.F := mkFun_quiet rfl rfl
noncomputable def wainwrightlaw04_few.ann : Ann :=
  (.seq (.reg []) (.seq (.reg []) (.seq (.seq (.reg []) (.block (.loop ⟨39, 0, [.arr (.st (.pair I (.pair I I)))], [0, 3, 4], (.cons (.v (.sl (.st (.pair I (.pair I I))))) (.cons (.ref 0) (.cons (.v I) .nil)))⟩ [(.exit 0, ⟨39, 0, [.arr (.st (.pair I (.pair I I)))], [3], (.cons (.ref 0) .nil)⟩)]
  (.seq (.seq (.reg []) (.cond .std .std)) (.seq (.block (.seq (.reg []) (.seq (.reg []) (.seq (.reg []) (.seq (.reg []) (.reg [.std, .std, .inl (.st (.pair I (.pair I I))), .obj (.st (.pair I (.pair I I)))])))))) (.reg [])))))) (.seq (.reg []) .std))))
noncomputable def wainwrightlaw04_few.code : Code := match Try.f9.body with | some c => c | none => .skip
theorem wainwrightlaw04_few.eq : absFn tt 39 wainwrightlaw04_few.ins wainwrightlaw04_few.outs wainwrightlaw04_few.code wainwrightlaw04_few.ann = wainwrightlaw04_few := by
  funext a
  kernel_rfl
theorem wainwrightlaw04_few.ok : wainwrightlaw04_few.ann.ok Try.prog 0 39 :=
  ann_ok (by kernel_rfl) (by kernel_rfl) (show ∀ c ∈ ([] : List Callee'), c.ok Try.prog from cs_nil)
    (show ∀ c ∈ ([] : List Callee'), FunQuiet c.F from cs_nil)
theorem wainwrightlaw04_few.sound : wainwrightlaw04_few.c.ok Try.prog := by
  refine ⟨?_, Try.f9, wainwrightlaw04_few.code, Try.func9, rfl, by decide⟩
  have h := fn_sound tt_ok mix_ok (x := wainwrightlaw04_few.ann) (ins := wainwrightlaw04_few.ins) (outs := wainwrightlaw04_few.outs) (N := 39) Try.func9 (c := wainwrightlaw04_few.code) rfl rfl (by kernel_rfl) (by kernel_rfl) wainwrightlaw04_few.ok (by decide)
  rw [wainwrightlaw04_few.eq] at h
  exact h

/-! ### wainwright/wainwrightref04.block: function 22 -/
noncomputable def wainwrightref04_block : Int → Option (Int) := fun n0 =>
  if decide (n0 < 1) = false then
    if decide (n0 ≥ 65536) = true then
      some 0
    else
      some n0
  else
    some 0

def wainwrightref04_block.ins : Spec := ⟨10, 0, [], [0], (.cons (.v I) .nil)⟩
def wainwrightref04_block.outs : List Spec := [⟨10, 0, [], [2], (.cons (.v I) .nil)⟩]
noncomputable def wainwrightref04_block.c : Callee' := ⟨22, mkFits wainwrightref04_block.ins wainwrightref04_block.outs, mkFun wainwrightref04_block.ins wainwrightref04_block.outs wainwrightref04_block⟩
theorem wainwrightref04_block.quiet : FunQuiet wainwrightref04_block.c.F := mkFun_quiet rfl rfl
noncomputable def wainwrightref04_block.ann : Ann :=
  (.seq (.reg []) (.seq (.seq (.reg []) (.cond (.seq (.reg []) .std) .std)) (.seq (.reg []) .std)))
noncomputable def wainwrightref04_block.code : Code := match Try.f22.body with | some c => c | none => .skip
theorem wainwrightref04_block.eq : absFn tt 10 wainwrightref04_block.ins wainwrightref04_block.outs wainwrightref04_block.code wainwrightref04_block.ann = wainwrightref04_block := by
  funext a
  kernel_rfl
theorem wainwrightref04_block.ok : wainwrightref04_block.ann.ok Try.prog 0 10 :=
  ann_ok (by kernel_rfl) (by kernel_rfl) (show ∀ c ∈ ([] : List Callee'), c.ok Try.prog from cs_nil)
    (show ∀ c ∈ ([] : List Callee'), FunQuiet c.F from cs_nil)
theorem wainwrightref04_block.sound : wainwrightref04_block.c.ok Try.prog := by
  refine ⟨?_, Try.f22, wainwrightref04_block.code, Try.func22, rfl, by decide⟩
  have h := fn_sound tt_ok mix_ok (x := wainwrightref04_block.ann) (ins := wainwrightref04_block.ins) (outs := wainwrightref04_block.outs) (N := 10) Try.func22 (c := wainwrightref04_block.code) rfl rfl (by kernel_rfl) (by kernel_rfl) wainwrightref04_block.ok (by decide)
  rw [wainwrightref04_block.eq] at h
  exact h

/-! ### wainwright/wainwrightref04.Of: function 12 -/
noncomputable def wainwrightref04_Of.l1 : ((List (Int × Int × Int)) × List Int × Int) → Option (((List (Int × Int × Int)) × List Int × Int) ⊕ (List (Int × Int × Int))) := fun (out3, m0, i4) =>
  if decide (i4 < (m0.length : Int)) = true then
    if decide (i4 < 65536) = true then
      if 0 ≤ i4 ∧ i4 < (m0.length : Int) then
        (wainwrightref04_block (m0.getD i4.toNat 0)).bind fun r21 =>
          if (r21 == 0) = true then
            some (.inl ((out3, m0, IntKind.i64.wrap (i4 + 1))))
          else
            ((
              if decide (IntKind.i64.wrap ((out3.length : Int) - 1) ≥ 0) = true then
                if 0 ≤ IntKind.i64.wrap ((out3.length : Int) - 1) ∧ IntKind.i64.wrap ((out3.length : Int) - 1) < (out3.length : Int) then
                  if 0 ≤ IntKind.i64.wrap ((out3.length : Int) - 1) ∧ IntKind.i64.wrap ((out3.length : Int) - 1) < (out3.length : Int) then
                    if (IntKind.i64.wrap (((out3.getD ((IntKind.i64.wrap ((out3.length : Int) - 1)).toNat) (0, (0, 0))).1) + (((out3.getD ((IntKind.i64.wrap ((out3.length : Int) - 1)).toNat) (0, (0, 0))).2).2)) == i4) = true then
                      if 0 ≤ IntKind.i64.wrap ((out3.length : Int) - 1) ∧ IntKind.i64.wrap ((out3.length : Int) - 1) < (out3.length : Int) then
                        if 0 ≤ IntKind.i64.wrap ((out3.length : Int) - 1) ∧ IntKind.i64.wrap ((out3.length : Int) - 1) < (out3.length : Int) then
                          some (((out3, m0, i4, r21, IntKind.i64.wrap ((out3.length : Int) - 1), (IntKind.i64.wrap ((((out3.getD ((IntKind.i64.wrap ((out3.length : Int) - 1)).toNat) (0, (0, 0))).2).1) + (((out3.getD ((IntKind.i64.wrap ((out3.length : Int) - 1)).toNat) (0, (0, 0))).2).2)) == r21))))
                        else none
                      else none
                    else
                      some (((out3, m0, i4, r21, IntKind.i64.wrap ((out3.length : Int) - 1), false)))
                  else none
                else none
              else
                some (((out3, m0, i4, r21, IntKind.i64.wrap ((out3.length : Int) - 1), false)))) : Option ((List (Int × Int × Int)) × List Int × Int × Int × Int × Bool)).bind fun (out3, m0, i4, b5, k6, t58) =>
              if t58 = true then
                if 0 ≤ k6 ∧ k6 < (out3.length : Int) then
                  if 0 ≤ k6 ∧ k6 < (out3.length : Int) then
                    some (.inl ((out3.set k6.toNat (((out3.getD k6.toNat (0, (0, 0))).1, ((out3.getD k6.toNat (0, (0, 0))).2).1, IntKind.i64.wrap ((((out3.getD k6.toNat (0, (0, 0))).2).2) + 1))), m0, IntKind.i64.wrap (i4 + 1))))
                  else none
                else none
              else
                if roomOk (out3.length + (([(i4, b5, 1)] : List (Int × Int × Int))).length) 24 then
                  some (.inl ((out3 ++ (([(i4, b5, 1)] : List (Int × Int × Int))), m0, IntKind.i64.wrap (i4 + 1))))
                else none
      else none
    else
      some (.inr out3)
  else
    some (.inr out3)

noncomputable def wainwrightref04_Of : List Int → Option (List (Int × Int × Int)) := fun m0 =>
  (loopO wainwrightref04_Of.l1 (([], m0, 0))).bind fun out3 =>
    some out3

def wainwrightref04_Of.ins : Spec := ⟨74, 0, [], [0], (.cons (.v (.sl I)) .nil)⟩
def wainwrightref04_Of.outs : List Spec := [⟨74, 0, [], [2], (.cons (.v (.sl (.st (.pair I (.pair I I))))) .nil)⟩]
noncomputable def wainwrightref04_Of.c : Callee' := ⟨12, mkFits wainwrightref04_Of.ins wainwrightref04_Of.outs, mkFun wainwrightref04_Of.ins wainwrightref04_Of.outs wainwrightref04_Of⟩
theorem wainwrightref04_Of.quiet : FunQuiet wainwrightref04_Of.c.F := mkFun_quiet rfl rfl
noncomputable def wainwrightref04_Of.ann : Ann :=
  (.seq (.reg []) (.seq (.reg []) (.seq (.seq (.reg []) (.block (.loop ⟨74, 0, [.arr (.st (.pair I (.pair I I)))], [0, 3, 4], (.cons (.v (.sl I)) (.cons (.ref 0) (.cons (.v I) .nil)))⟩ [(.exit 0, ⟨74, 0, [.arr (.st (.pair I (.pair I I)))], [3], (.cons (.ref 0) .nil)⟩)]
  (.seq (.seq (.reg []) (.cond .std .std)) (.seq (.block (.seq (.reg [.std, .std, .std, .std, .callq [wainwrightref04_block.c]]) (.seq (.seq (.reg []) (.cond .std .std)) (.seq (.reg []) (.join [(.norm, ⟨74, 0, [.arr (.st (.pair I (.pair I I)))], [0, 3, 4, 5, 6, 58], (.cons (.v (.sl I)) (.cons (.ref 0) (.cons (.v I) (.cons (.v I) (.cons (.v I) (.cons (.v .bool) .nil))))))⟩)]
  (.drw []) (.cond (.reg []) (.reg [.std, .std, .std, .std, .inl (.st (.pair I (.pair I I))), .obj (.st (.pair I (.pair I I)))]))))))) (.reg [])))))) (.seq (.reg []) .std))))
noncomputable def wainwrightref04_Of.code : Code := match Try.f12.body with | some c => c | none => .skip
theorem wainwrightref04_Of.eq : absFn tt 74 wainwrightref04_Of.ins wainwrightref04_Of.outs wainwrightref04_Of.code wainwrightref04_Of.ann = wainwrightref04_Of := by
  funext a
  kernel_rfl
theorem wainwrightref04_Of.ok : wainwrightref04_Of.ann.ok Try.prog 0 74 :=
  ann_ok (by kernel_rfl) (by kernel_rfl) (show ∀ c ∈ ([wainwrightref04_block.c] : List Callee'), c.ok Try.prog from cs_cons wainwrightref04_block.sound cs_nil)
    (show ∀ c ∈ ([wainwrightref04_block.c] : List Callee'), FunQuiet c.F from cs_cons wainwrightref04_block.quiet cs_nil)
theorem wainwrightref04_Of.sound : wainwrightref04_Of.c.ok Try.prog := by
  refine ⟨?_, Try.f12, wainwrightref04_Of.code, Try.func12, rfl, by decide⟩
  have h := fn_sound tt_ok mix_ok (x := wainwrightref04_Of.ann) (ins := wainwrightref04_Of.ins) (outs := wainwrightref04_Of.outs) (N := 74) Try.func12 (c := wainwrightref04_Of.code) rfl rfl (by kernel_rfl) (by kernel_rfl) wainwrightref04_Of.ok (by decide)
  rw [wainwrightref04_Of.eq] at h
  exact h

/-! ### wainwright/wainwrightref04.Same: function 10 -/
noncomputable def wainwrightref04_Same.l1 : ((List (Int × Int × Int)) × (List (Int × Int × Int)) × Int) → Option (((List (Int × Int × Int)) × (List (Int × Int × Int)) × Int) ⊕ (Unit ⊕ Bool)) := fun (a0, b1, i5) =>
  if decide (i5 < (a0.length : Int)) = true then
    if 0 ≤ i5 ∧ i5 < (a0.length : Int) then
      if 0 ≤ i5 ∧ i5 < (b1.length : Int) then
        if (!(((a0.getD i5.toNat (0, (0, 0))).1 == (b1.getD i5.toNat (0, (0, 0))).1) && ((((a0.getD i5.toNat (0, (0, 0))).2).1 == ((b1.getD i5.toNat (0, (0, 0))).2).1) && (((a0.getD i5.toNat (0, (0, 0))).2).2 == ((b1.getD i5.toNat (0, (0, 0))).2).2)))) = true then
          some (.inr (.inr false))
        else
          some (.inl ((a0, b1, IntKind.i64.wrap (i5 + 1))))
      else none
    else none
  else
    some (.inr (.inl ()))

noncomputable def wainwrightref04_Same : ((List (Int × Int × Int)) × List (Int × Int × Int)) → Option (Bool) := fun (a0, b1) =>
  if ((a0.length : Int) != (b1.length : Int)) = true then
    some false
  else
    (loopO wainwrightref04_Same.l1 ((a0, b1, 0))).bind fun d => match d with
    | .inl _ =>
      some true
    | .inr t4 =>
      some t4

def wainwrightref04_Same.ins : Spec := ⟨26, 0, [], [0, 1], (.cons (.v (.sl (.st (.pair I (.pair I I))))) (.cons (.v (.sl (.st (.pair I (.pair I I))))) .nil))⟩
def wainwrightref04_Same.outs : List Spec := [⟨26, 0, [], [4], (.cons (.v .bool) .nil)⟩]
noncomputable def wainwrightref04_Same.c : Callee' := ⟨10, mkFits wainwrightref04_Same.ins wainwrightref04_Same.outs, mkFun wainwrightref04_Same.ins wainwrightref04_Same.outs wainwrightref04_Same⟩
theorem wainwrightref04_Same.quiet : FunQuiet wainwrightref04_Same.c.F := mkFun_quiet rfl rfl
noncomputable def wainwrightref04_Same.ann : Ann :=
  (.seq (.reg []) (.seq (.seq (.reg []) (.cond (.seq (.reg []) .std) .std)) (.seq (.seq (.reg []) (.block (.loop ⟨26, 0, [], [0, 1, 5], (.cons (.v (.sl (.st (.pair I (.pair I I))))) (.cons (.v (.sl (.st (.pair I (.pair I I))))) (.cons (.v I) .nil)))⟩ [(.exit 0, ⟨26, 0, [], [], .nil⟩), (.ret, ⟨26, 0, [], [4], (.cons (.v .bool) .nil)⟩)]
  (.seq (.seq (.reg []) (.cond .std .std)) (.seq (.block (.seq (.drw [.std, .std, .std, .std, .std, .std, .std, .std, .eqs 39]) (.cond (.seq (.reg []) .std) .std))) (.reg [])))))) (.seq (.reg []) .std))))
noncomputable def wainwrightref04_Same.code : Code := match Try.f10.body with | some c => c | none => .skip
theorem wainwrightref04_Same.eq : absFn tt 26 wainwrightref04_Same.ins wainwrightref04_Same.outs wainwrightref04_Same.code wainwrightref04_Same.ann = wainwrightref04_Same := by
  funext a
  kernel_rfl
theorem wainwrightref04_Same.ok : wainwrightref04_Same.ann.ok Try.prog 0 26 :=
  ann_ok (by kernel_rfl) (by kernel_rfl) (show ∀ c ∈ ([] : List Callee'), c.ok Try.prog from cs_nil)
    (show ∀ c ∈ ([] : List Callee'), FunQuiet c.F from cs_nil)
theorem wainwrightref04_Same.sound : wainwrightref04_Same.c.ok Try.prog := by
  refine ⟨?_, Try.f10, wainwrightref04_Same.code, Try.func10, rfl, by decide⟩
  have h := fn_sound tt_ok mix_ok (x := wainwrightref04_Same.ann) (ins := wainwrightref04_Same.ins) (outs := wainwrightref04_Same.outs) (N := 26) Try.func10 (c := wainwrightref04_Same.code) rfl rfl (by kernel_rfl) (by kernel_rfl) wainwrightref04_Same.ok (by decide)
  rw [wainwrightref04_Same.eq] at h
  exact h

/-! ### wainwright/spans.Map: function 14 -/
noncomputable def spans_Map.l2 : ((List Int × Int × Int × Int) × Int × (List (Int × Int × Int)) × Int × Int) → Option (((List Int × Int × Int × Int) × Int × (List (Int × Int × Int)) × Int × Int) ⊕ (List Int × (List (Int × Int × Int)) × Int × Int)) := fun ((m5, s7a, s7b, s7c), i8, t13, t14, t15) =>
  if decide (i8 < (m5.length : Int)) = true then
    (spans_has ((s7a, s7b, s7c), i8)).bind fun r39 =>
      if r39 = true then
        if 0 ≤ i8 ∧ i8 < (m5.length : Int) then
          some (.inl (((m5.set i8.toNat (IntKind.i64.wrap (s7b + (IntKind.i64.wrap (i8 - s7a)))), s7a, s7b, s7c), IntKind.i64.wrap (i8 + 1), t13, t14, t15)))
        else none
      else
        some (.inr (((m5, t13, t14, t15))))
  else
    some (.inr (((m5, t13, t14, t15))))

noncomputable def spans_Map.l1 : (List Int × (List (Int × Int × Int)) × Int × Int) → Option ((List Int × (List (Int × Int × Int)) × Int × Int) ⊕ (List Int)) := fun (m5, t13, t14, t15) =>
  if decide (t15 < t14) = true then
    if 0 ≤ t15 ∧ t15 < (t13.length : Int) then
      if decide (((t13.getD t15.toNat (0, (0, 0))).2).2 ≤ 0) = false then
        if decide ((t13.getD t15.toNat (0, (0, 0))).1 ≥ (m5.length : Int)) = true then
          some (.inl ((m5, t13, t14, IntKind.i64.wrap (t15 + 1))))
        else
          (loopO spans_Map.l2 (((m5, (t13.getD t15.toNat (0, (0, 0))).1, ((t13.getD t15.toNat (0, (0, 0))).2).1, ((t13.getD t15.toNat (0, (0, 0))).2).2), (if 0 > (t13.getD t15.toNat (0, (0, 0))).1 then 0 else (t13.getD t15.toNat (0, (0, 0))).1), t13, t14, t15))).bind fun (m5, t13, t14, t15) =>
            some (.inl ((m5, t13, t14, IntKind.i64.wrap (t15 + 1))))
      else
        some (.inl ((m5, t13, t14, IntKind.i64.wrap (t15 + 1))))
    else none
  else
    some (.inr m5)

noncomputable def spans_Map : ((List (Int × Int × Int)) × Int) → Option (List Int) := fun (l0, n1) =>
  if 0 ≤ (if 65536 < (if 0 > n1 then 0 else n1) then 65536 else (if 0 > n1 then 0 else n1)) ∧ (if 65536 < (if 0 > n1 then 0 else n1) then 65536 else (if 0 > n1 then 0 else n1)) ≤ (if 65536 < (if 0 > n1 then 0 else n1) then 65536 else (if 0 > n1 then 0 else n1)) ∧ (if 65536 < (if 0 > n1 then 0 else n1) then 65536 else (if 0 > n1 then 0 else n1)) * (8 : Nat) ≤ 140737488355328 ∧ (if 65536 < (if 0 > n1 then 0 else n1) then 65536 else (if 0 > n1 then 0 else n1)) ≤ 9223372036854775807 then
    (loopO spans_Map.l1 ((List.replicate ((if 65536 < (if 0 > n1 then 0 else n1) then 65536 else (if 0 > n1 then 0 else n1))).toNat (0 : Int), l0, (l0.length : Int), 0))).bind fun m5 =>
      some m5
  else none

def spans_Map.ins : Spec := ⟨55, 0, [], [0, 1], (.cons (.v (.sl (.st (.pair I (.pair I I))))) (.cons (.v I) .nil))⟩
def spans_Map.outs : List Spec := [⟨55, 0, [], [4], (.cons (.v (.sl I)) .nil)⟩]
noncomputable def spans_Map.c : Callee' := ⟨14, mkFits spans_Map.ins spans_Map.outs, mkFun spans_Map.ins spans_Map.outs spans_Map⟩
theorem spans_Map.quiet : FunQuiet spans_Map.c.F := mkFun_quiet rfl rfl
noncomputable def spans_Map.ann : Ann :=
  (.seq (.reg []) (.seq (.reg [.std, .std, .std, .obj I]) (.seq (.seq (.reg []) (.block (.loop ⟨55, 0, [.arr I], [5, 13, 14, 15], (.cons (.ref 0) (.cons (.v (.sl (.st (.pair I (.pair I I))))) (.cons (.v I) (.cons (.v I) .nil))))⟩ [(.exit 0, ⟨55, 0, [.arr I], [5], (.cons (.ref 0) .nil)⟩)]
  (.seq (.reg []) (.seq (.cond .std .std) (.seq (.block (.seq (.reg []) (.seq (.seq (.reg []) (.cond .std .std)) (.seq (.reg []) (.block (.loop ⟨55, 0, [.arr I, .box (.cons (.v I) (.cons (.v I) (.cons (.v I) .nil)))], [5, 7, 8, 13, 14, 15], (.cons (.ref 0) (.cons (.ref 1) (.cons (.v I) (.cons (.v (.sl (.st (.pair I (.pair I I))))) (.cons (.v I) (.cons (.v I) .nil))))))⟩ [(.exit 2, ⟨55, 0, [.arr I], [5, 13, 14, 15], (.cons (.ref 0) (.cons (.v (.sl (.st (.pair I (.pair I I))))) (.cons (.v I) (.cons (.v I) .nil))))⟩)]
  (.seq (.seq (.reg [.std, .std, .std, .std, .std, .std, .std, .callq [spans_has.c]]) (.cond .std .std)) (.seq (.block (.reg [])) (.reg []))))))))) (.reg []))))))) (.seq (.reg []) .std))))
noncomputable def spans_Map.code : Code := match Try.f14.body with | some c => c | none => .skip
theorem spans_Map.eq : absFn tt 55 spans_Map.ins spans_Map.outs spans_Map.code spans_Map.ann = spans_Map := by
  funext a
  kernel_rfl
theorem spans_Map.ok : spans_Map.ann.ok Try.prog 0 55 :=
  ann_ok (by kernel_rfl) (by kernel_rfl) (show ∀ c ∈ ([spans_has.c] : List Callee'), c.ok Try.prog from cs_cons spans_has.sound cs_nil)
    (show ∀ c ∈ ([spans_has.c] : List Callee'), FunQuiet c.F from cs_cons spans_has.quiet cs_nil)
theorem spans_Map.sound : spans_Map.c.ok Try.prog := by
  refine ⟨?_, Try.f14, spans_Map.code, Try.func14, rfl, by decide⟩
  have h := fn_sound tt_ok mix_ok (x := spans_Map.ann) (ins := spans_Map.ins) (outs := spans_Map.outs) (N := 55) Try.func14 (c := spans_Map.code) rfl rfl (by kernel_rfl) (by kernel_rfl) spans_Map.ok (by decide)
  rw [spans_Map.eq] at h
  exact h

/-! ### wainwright/wainwrightref04.Map: function 15 -/
noncomputable def wainwrightref04_Map.l2 : (List Int × (List (Int × Int × Int)) × Int × Int × Int) → Option ((List Int × (List (Int × Int × Int)) × Int × Int × Int) ⊕ (List Int × (List (Int × Int × Int)) × Int × Int)) := fun (out5, l0, n1, k6, i7) =>
  if decide (i7 < n1) = true then
    ((
      if 0 ≤ k6 ∧ k6 < (l0.length : Int) then
        if decide ((l0.getD k6.toNat (0, (0, 0))).1 ≤ i7) = true then
          if 0 ≤ k6 ∧ k6 < (l0.length : Int) then
            if 0 ≤ k6 ∧ k6 < (l0.length : Int) then
              some (((out5, l0, n1, k6, i7, decide (IntKind.i64.wrap (i7 - ((l0.getD k6.toNat (0, (0, 0))).1)) < ((l0.getD k6.toNat (0, (0, 0))).2).2))))
            else none
          else none
        else
          some (((out5, l0, n1, k6, i7, false)))
      else none) : Option (List Int × (List (Int × Int × Int)) × Int × Int × Int × Bool)).bind fun (out5, l0, n1, k6, i7, t45) =>
      if t45 = true then
        if 0 ≤ k6 ∧ k6 < (l0.length : Int) then
          if 0 ≤ k6 ∧ k6 < (l0.length : Int) then
            if 0 ≤ i7 ∧ i7 < (out5.length : Int) then
              some (.inl ((out5.set i7.toNat (IntKind.i64.wrap ((((l0.getD k6.toNat (0, (0, 0))).2).1) + (IntKind.i64.wrap (i7 - ((l0.getD k6.toNat (0, (0, 0))).1))))), l0, n1, k6, IntKind.i64.wrap (i7 + 1))))
            else none
          else none
        else none
      else
        some (.inl ((out5, l0, n1, k6, IntKind.i64.wrap (i7 + 1))))
  else
    some (.inr (((out5, l0, n1, k6))))

noncomputable def wainwrightref04_Map.l1 : (List Int × (List (Int × Int × Int)) × Int × Int) → Option ((List Int × (List (Int × Int × Int)) × Int × Int) ⊕ (List Int)) := fun (out5, l0, n1, k6) =>
  if decide (k6 < (l0.length : Int)) = true then
    (loopO wainwrightref04_Map.l2 ((out5, l0, n1, k6, 0))).bind fun (out5, l0, n1, k6) =>
      some (.inl ((out5, l0, n1, IntKind.i64.wrap (k6 + 1))))
  else
    some (.inr out5)

noncomputable def wainwrightref04_Map : ((List (Int × Int × Int)) × Int) → Option (List Int) := fun (l0, n1) =>
  if 0 ≤ (if 65536 < (if 0 > n1 then 0 else n1) then 65536 else (if 0 > n1 then 0 else n1)) ∧ (if 65536 < (if 0 > n1 then 0 else n1) then 65536 else (if 0 > n1 then 0 else n1)) ≤ (if 65536 < (if 0 > n1 then 0 else n1) then 65536 else (if 0 > n1 then 0 else n1)) ∧ (if 65536 < (if 0 > n1 then 0 else n1) then 65536 else (if 0 > n1 then 0 else n1)) * (8 : Nat) ≤ 140737488355328 ∧ (if 65536 < (if 0 > n1 then 0 else n1) then 65536 else (if 0 > n1 then 0 else n1)) ≤ 9223372036854775807 then
    (loopO wainwrightref04_Map.l1 ((List.replicate ((if 65536 < (if 0 > n1 then 0 else n1) then 65536 else (if 0 > n1 then 0 else n1))).toNat (0 : Int), l0, (if 65536 < (if 0 > n1 then 0 else n1) then 65536 else (if 0 > n1 then 0 else n1)), 0))).bind fun out5 =>
      some out5
  else none

def wainwrightref04_Map.ins : Spec := ⟨63, 0, [], [0, 1], (.cons (.v (.sl (.st (.pair I (.pair I I))))) (.cons (.v I) .nil))⟩
def wainwrightref04_Map.outs : List Spec := [⟨63, 0, [], [4], (.cons (.v (.sl I)) .nil)⟩]
noncomputable def wainwrightref04_Map.c : Callee' := ⟨15, mkFits wainwrightref04_Map.ins wainwrightref04_Map.outs, mkFun wainwrightref04_Map.ins wainwrightref04_Map.outs wainwrightref04_Map⟩
theorem wainwrightref04_Map.quiet : FunQuiet wainwrightref04_Map.c.F := mkFun_quiet rfl rfl
noncomputable def wainwrightref04_Map.ann : Ann :=
  (.seq (.reg []) (.seq (.reg []) (.seq (.reg [.std, .obj I]) (.seq (.seq (.reg []) (.block (.loop ⟨63, 0, [.arr I], [0, 1, 5, 6], (.cons (.v (.sl (.st (.pair I (.pair I I))))) (.cons (.v I) (.cons (.ref 0) (.cons (.v I) .nil))))⟩ [(.exit 0, ⟨63, 0, [.arr I], [5], (.cons (.ref 0) .nil)⟩)]
  (.seq (.seq (.reg []) (.cond .std .std)) (.seq (.block (.seq (.reg []) (.block (.loop ⟨63, 0, [.arr I], [0, 1, 5, 6, 7], (.cons (.v (.sl (.st (.pair I (.pair I I))))) (.cons (.v I) (.cons (.ref 0) (.cons (.v I) (.cons (.v I) .nil)))))⟩ [(.exit 2, ⟨63, 0, [.arr I], [0, 1, 5, 6], (.cons (.v (.sl (.st (.pair I (.pair I I))))) (.cons (.v I) (.cons (.ref 0) (.cons (.v I) .nil))))⟩)]
  (.seq (.seq (.reg []) (.cond .std .std)) (.seq (.block (.join [(.norm, ⟨63, 0, [.arr I], [0, 1, 5, 6, 7, 45], (.cons (.v (.sl (.st (.pair I (.pair I I))))) (.cons (.v I) (.cons (.ref 0) (.cons (.v I) (.cons (.v I) (.cons (.v .bool) .nil))))))⟩)]
  (.drw []) (.cond (.drw []) .std))) (.reg []))))))) (.reg [])))))) (.seq (.reg []) .std)))))
noncomputable def wainwrightref04_Map.code : Code := match Try.f15.body with | some c => c | none => .skip
theorem wainwrightref04_Map.eq : absFn tt 63 wainwrightref04_Map.ins wainwrightref04_Map.outs wainwrightref04_Map.code wainwrightref04_Map.ann = wainwrightref04_Map := by
  funext a
  kernel_rfl
theorem wainwrightref04_Map.ok : wainwrightref04_Map.ann.ok Try.prog 0 63 :=
  ann_ok (by kernel_rfl) (by kernel_rfl) (show ∀ c ∈ ([] : List Callee'), c.ok Try.prog from cs_nil)
    (show ∀ c ∈ ([] : List Callee'), FunQuiet c.F from cs_nil)
theorem wainwrightref04_Map.sound : wainwrightref04_Map.c.ok Try.prog := by
  refine ⟨?_, Try.f15, wainwrightref04_Map.code, Try.func15, rfl, by decide⟩
  have h := fn_sound tt_ok mix_ok (x := wainwrightref04_Map.ann) (ins := wainwrightref04_Map.ins) (outs := wainwrightref04_Map.outs) (N := 63) Try.func15 (c := wainwrightref04_Map.code) rfl rfl (by kernel_rfl) (by kernel_rfl) wainwrightref04_Map.ok (by decide)
  rw [wainwrightref04_Map.eq] at h
  exact h

/-! ### wainwright/wainwrightref01.Same: function 13 -/
noncomputable def wainwrightref01_Same.l1 : (List Int × List Int × Int) → Option ((List Int × List Int × Int) ⊕ (Unit ⊕ Bool)) := fun (a0, b1, i5) =>
  if decide (i5 < (a0.length : Int)) = true then
    if 0 ≤ i5 ∧ i5 < (a0.length : Int) then
      if 0 ≤ i5 ∧ i5 < (b1.length : Int) then
        if (a0.getD i5.toNat 0 != b1.getD i5.toNat 0) = true then
          some (.inr (.inr false))
        else
          some (.inl ((a0, b1, IntKind.i64.wrap (i5 + 1))))
      else none
    else none
  else
    some (.inr (.inl ()))

noncomputable def wainwrightref01_Same : (List Int × List Int) → Option (Bool) := fun (a0, b1) =>
  if ((a0.length : Int) != (b1.length : Int)) = true then
    some false
  else
    (loopO wainwrightref01_Same.l1 ((a0, b1, 0))).bind fun d => match d with
    | .inl _ =>
      some true
    | .inr t4 =>
      some t4

def wainwrightref01_Same.ins : Spec := ⟨26, 0, [], [0, 1], (.cons (.v (.sl I)) (.cons (.v (.sl I)) .nil))⟩
def wainwrightref01_Same.outs : List Spec := [⟨26, 0, [], [4], (.cons (.v .bool) .nil)⟩]
noncomputable def wainwrightref01_Same.c : Callee' := ⟨13, mkFits wainwrightref01_Same.ins wainwrightref01_Same.outs, mkFun wainwrightref01_Same.ins wainwrightref01_Same.outs wainwrightref01_Same⟩
theorem wainwrightref01_Same.quiet : FunQuiet wainwrightref01_Same.c.F := mkFun_quiet rfl rfl
noncomputable def wainwrightref01_Same.ann : Ann :=
  (.seq (.reg []) (.seq (.seq (.reg []) (.cond (.seq (.reg []) .std) .std)) (.seq (.seq (.reg []) (.block (.loop ⟨26, 0, [], [0, 1, 5], (.cons (.v (.sl I)) (.cons (.v (.sl I)) (.cons (.v I) .nil)))⟩ [(.exit 0, ⟨26, 0, [], [], .nil⟩), (.ret, ⟨26, 0, [], [4], (.cons (.v .bool) .nil)⟩)]
  (.seq (.seq (.reg []) (.cond .std .std)) (.seq (.block (.seq (.drw []) (.cond (.seq (.reg []) .std) .std))) (.reg [])))))) (.seq (.reg []) .std))))
noncomputable def wainwrightref01_Same.code : Code := match Try.f13.body with | some c => c | none => .skip
theorem wainwrightref01_Same.eq : absFn tt 26 wainwrightref01_Same.ins wainwrightref01_Same.outs wainwrightref01_Same.code wainwrightref01_Same.ann = wainwrightref01_Same := by
  funext a
  kernel_rfl
theorem wainwrightref01_Same.ok : wainwrightref01_Same.ann.ok Try.prog 0 26 :=
  ann_ok (by kernel_rfl) (by kernel_rfl) (show ∀ c ∈ ([] : List Callee'), c.ok Try.prog from cs_nil)
    (show ∀ c ∈ ([] : List Callee'), FunQuiet c.F from cs_nil)
theorem wainwrightref01_Same.sound : wainwrightref01_Same.c.ok Try.prog := by
  refine ⟨?_, Try.f13, wainwrightref01_Same.code, Try.func13, rfl, by decide⟩
  have h := fn_sound tt_ok mix_ok (x := wainwrightref01_Same.ann) (ins := wainwrightref01_Same.ins) (outs := wainwrightref01_Same.outs) (N := 26) Try.func13 (c := wainwrightref01_Same.code) rfl rfl (by kernel_rfl) (by kernel_rfl) wainwrightref01_Same.ok (by decide)
  rw [wainwrightref01_Same.eq] at h
  exact h

/-! ### wainwright/wainwrightlaw04.SpansOf: function 3 -/
noncomputable def wainwrightlaw04_SpansOf : (List Int × (List (Int × Int × Int)) × Int) → Option (Bool) := fun (m0, l1, n2) =>
  (wainwrightlaw04_lives ()).bind fun r7 =>
    if (!r7) = true then
      some false
    else
      (wainwrightlaw04_early m0).bind fun r10 =>
        (wainwrightlaw04_few l1).bind fun r12 =>
          (spans_Of r10).bind fun r16 =>
            (wainwrightref04_Of r10).bind fun r18 =>
              (wainwrightref04_Same (r16, r18)).bind fun r19 =>
                if r19 = true then
                  (spans_Map (r12, (if 400 < n2 then 400 else n2))).bind fun r23 =>
                    (wainwrightref04_Map (r12, (if 400 < n2 then 400 else n2))).bind fun r26 =>
                      (wainwrightref01_Same (r23, r26)).bind fun r27 =>
                        some r27
                else
                  some false

def wainwrightlaw04_SpansOf.ins : Spec := ⟨29, 0, [], [0, 1, 2], (.cons (.v (.sl I)) (.cons (.v (.sl (.st (.pair I (.pair I I))))) (.cons (.v I) .nil)))⟩
def wainwrightlaw04_SpansOf.outs : List Spec := [⟨29, 0, [], [6], (.cons (.v .bool) .nil)⟩]
noncomputable def wainwrightlaw04_SpansOf.c : Callee' := ⟨3, mkFits wainwrightlaw04_SpansOf.ins wainwrightlaw04_SpansOf.outs, mkFun wainwrightlaw04_SpansOf.ins wainwrightlaw04_SpansOf.outs wainwrightlaw04_SpansOf⟩
theorem wainwrightlaw04_SpansOf.quiet : FunQuiet wainwrightlaw04_SpansOf.c.F := mkFun_quiet rfl rfl
noncomputable def wainwrightlaw04_SpansOf.ann : Ann :=
  (.seq (.reg []) (.seq (.seq (.reg [.callq [wainwrightlaw04_lives.c]]) (.cond (.seq (.reg []) .std) .std)) (.seq (.reg [.std, .callq [wainwrightlaw04_early.c], .std, .callq [wainwrightlaw04_few.c]]) (.seq (.reg []) (.seq (.reg [.std, .callq [spans_Of.c], .std, .callq [wainwrightref04_Of.c], .callq [wainwrightref04_Same.c], .std, .std, .std, .callq [spans_Map.c], .std, .std, .callq [wainwrightref04_Map.c], .callq [wainwrightref01_Same.c]]) .std)))))
noncomputable def wainwrightlaw04_SpansOf.code : Code := match Try.f3.body with | some c => c | none => .skip
theorem wainwrightlaw04_SpansOf.eq : absFn tt 29 wainwrightlaw04_SpansOf.ins wainwrightlaw04_SpansOf.outs wainwrightlaw04_SpansOf.code wainwrightlaw04_SpansOf.ann = wainwrightlaw04_SpansOf := by
  funext a
  kernel_rfl
theorem wainwrightlaw04_SpansOf.ok : wainwrightlaw04_SpansOf.ann.ok Try.prog 0 29 :=
  ann_ok (by kernel_rfl) (by kernel_rfl) (show ∀ c ∈ ([wainwrightlaw04_lives.c, wainwrightlaw04_early.c, wainwrightlaw04_few.c, spans_Of.c, wainwrightref04_Of.c, wainwrightref04_Same.c, spans_Map.c, wainwrightref04_Map.c, wainwrightref01_Same.c] : List Callee'), c.ok Try.prog from cs_cons wainwrightlaw04_lives.sound (cs_cons wainwrightlaw04_early.sound (cs_cons wainwrightlaw04_few.sound (cs_cons spans_Of.sound (cs_cons wainwrightref04_Of.sound (cs_cons wainwrightref04_Same.sound (cs_cons spans_Map.sound (cs_cons wainwrightref04_Map.sound (cs_cons wainwrightref01_Same.sound cs_nil)))))))))
    (show ∀ c ∈ ([wainwrightlaw04_lives.c, wainwrightlaw04_early.c, wainwrightlaw04_few.c, spans_Of.c, wainwrightref04_Of.c, wainwrightref04_Same.c, spans_Map.c, wainwrightref04_Map.c, wainwrightref01_Same.c] : List Callee'), FunQuiet c.F from cs_cons wainwrightlaw04_lives.quiet (cs_cons wainwrightlaw04_early.quiet (cs_cons wainwrightlaw04_few.quiet (cs_cons spans_Of.quiet (cs_cons wainwrightref04_Of.quiet (cs_cons wainwrightref04_Same.quiet (cs_cons spans_Map.quiet (cs_cons wainwrightref04_Map.quiet (cs_cons wainwrightref01_Same.quiet cs_nil)))))))))
theorem wainwrightlaw04_SpansOf.sound : wainwrightlaw04_SpansOf.c.ok Try.prog := by
  refine ⟨?_, Try.f3, wainwrightlaw04_SpansOf.code, Try.func3, rfl, by decide⟩
  have h := fn_sound tt_ok mix_ok (x := wainwrightlaw04_SpansOf.ann) (ins := wainwrightlaw04_SpansOf.ins) (outs := wainwrightlaw04_SpansOf.outs) (N := 29) Try.func3 (c := wainwrightlaw04_SpansOf.code) rfl rfl (by kernel_rfl) (by kernel_rfl) wainwrightlaw04_SpansOf.ok (by decide)
  rw [wainwrightlaw04_SpansOf.eq] at h
  exact h

/-! ### wainwright/wainwrightlaw04.SpansBack: function 4 -/
noncomputable def wainwrightlaw04_SpansBack.l1 : (List Int × Int) → Option ((List Int × Int) ⊕ ((List Int) ⊕ Bool)) := fun (m0, i3) =>
  if decide (i3 < (m0.length : Int)) = true then
    if 0 ≤ i3 ∧ i3 < (m0.length : Int) then
      if decide (m0.getD i3.toNat 0 < 0) = false then
        if 0 ≤ i3 ∧ i3 < (m0.length : Int) then
          if decide (m0.getD i3.toNat 0 > 65535) = true then
            some (.inr (.inr true))
          else
            some (.inl ((m0, IntKind.i64.wrap (i3 + 1))))
        else none
      else
        some (.inr (.inr true))
    else none
  else
    some (.inr (.inl m0))

noncomputable def wainwrightlaw04_SpansBack.l2 : (List Int × (List (Int × Int × Int)) × Int × Int) → Option ((List Int × (List (Int × Int × Int)) × Int × Int) ⊕ ((List Int × (List (Int × Int × Int)) × Int) ⊕ Bool)) := fun (m0, l4, used5, i6) =>
  if decide (i6 < (m0.length : Int)) = true then
    (spans_At (l4, i6)).bind fun r51 =>
      if 0 ≤ i6 ∧ i6 < (m0.length : Int) then
        if (r51 != m0.getD i6.toNat 0) = true then
          some (.inr (.inr false))
        else
          if 0 ≤ i6 ∧ i6 < (m0.length : Int) then
            if (m0.getD i6.toNat 0 != 0) = true then
              some (.inl ((m0, l4, IntKind.i64.wrap (used5 + 1), IntKind.i64.wrap (i6 + 1))))
            else
              some (.inl ((m0, l4, used5, IntKind.i64.wrap (i6 + 1))))
          else none
      else none
  else
    some (.inr (.inl ((m0, l4, used5))))

noncomputable def wainwrightlaw04_SpansBack : List Int → Option (Bool) := fun m0 =>
  (wainwrightlaw04_lives ()).bind fun r7 =>
    if (!r7) = true then
      some false
    else
      (wainwrightlaw04_early m0).bind fun r10 =>
        (loopO wainwrightlaw04_SpansBack.l1 ((r10, 0))).bind fun d => match d with
        | .inl m0 =>
          (spans_Of m0).bind fun r30 =>
            (spans_Right r30).bind fun r32 =>
              if (!r32) = false then
                (spans_Map (r30, (m0.length : Int))).bind fun r38 =>
                  (wainwrightref01_Same (r38, m0)).bind fun r40 =>
                    if (!r40) = true then
                      some false
                    else
                      (loopO wainwrightlaw04_SpansBack.l2 ((m0, r30, 0, 0))).bind fun d => match d with
                      | .inl (m0, l4, used5) =>
                        (spans_Blocks l4).bind fun r65 =>
                          if ((r65.length : Int) == used5) = true then
                            (spans_At (l4, (m0.length : Int))).bind fun r73 =>
                              some (((r73 == 0)))
                          else
                            some false
                      | .inr t2 =>
                        some t2
              else
                some false
        | .inr t2 =>
          some t2

def wainwrightlaw04_SpansBack.ins : Spec := ⟨76, 0, [], [0], (.cons (.v (.sl I)) .nil)⟩
def wainwrightlaw04_SpansBack.outs : List Spec := [⟨76, 0, [], [2], (.cons (.v .bool) .nil)⟩]
noncomputable def wainwrightlaw04_SpansBack.c : Callee' := ⟨4, mkFits wainwrightlaw04_SpansBack.ins wainwrightlaw04_SpansBack.outs, mkFun wainwrightlaw04_SpansBack.ins wainwrightlaw04_SpansBack.outs wainwrightlaw04_SpansBack⟩
theorem wainwrightlaw04_SpansBack.quiet : FunQuiet wainwrightlaw04_SpansBack.c.F := mkFun_quiet rfl rfl
noncomputable def wainwrightlaw04_SpansBack.ann : Ann :=
  (.seq (.reg []) (.seq (.seq (.reg [.callq [wainwrightlaw04_lives.c]]) (.cond (.seq (.reg []) .std) .std)) (.seq (.reg [.std, .callq [wainwrightlaw04_early.c]]) (.seq (.seq (.reg []) (.block (.loop ⟨76, 0, [], [0, 3], (.cons (.v (.sl I)) (.cons (.v I) .nil))⟩ [(.exit 0, ⟨76, 0, [], [0], (.cons (.v (.sl I)) .nil)⟩), (.ret, ⟨76, 0, [], [2], (.cons (.v .bool) .nil)⟩)]
  (.seq (.seq (.reg []) (.cond .std .std)) (.seq (.block (.seq (.reg []) (.cond (.seq (.reg []) .std) .std))) (.reg [])))))) (.seq (.reg [.std, .callq [spans_Of.c]]) (.seq (.seq (.reg [.std, .callq [spans_Right.c], .std, .std, .std, .std, .std, .callq [spans_Map.c], .std, .callq [wainwrightref01_Same.c]]) (.cond (.seq (.reg []) .std) .std)) (.seq (.reg []) (.seq (.seq (.reg []) (.block (.loop ⟨76, 0, [], [0, 4, 5, 6], (.cons (.v (.sl I)) (.cons (.v (.sl (.st (.pair I (.pair I I))))) (.cons (.v I) (.cons (.v I) .nil))))⟩ [(.exit 2, ⟨76, 0, [], [0, 4, 5], (.cons (.v (.sl I)) (.cons (.v (.sl (.st (.pair I (.pair I I))))) (.cons (.v I) .nil)))⟩), (.ret, ⟨76, 0, [], [2], (.cons (.v .bool) .nil)⟩)]
  (.seq (.seq (.reg []) (.cond .std .std)) (.seq (.block (.seq (.seq (.drw [.std, .std, .callq [spans_At.c]]) (.cond (.seq (.reg []) .std) .std)) (.seq (.reg []) (.cond (.reg []) .std)))) (.reg [])))))) (.seq (.reg [.std, .callq [spans_Blocks.c], .std, .std, .std, .std, .std, .std, .std, .callq [spans_At.c]]) .std)))))))))
noncomputable def wainwrightlaw04_SpansBack.code : Code := match Try.f4.body with | some c => c | none => .skip
theorem wainwrightlaw04_SpansBack.eq : absFn tt 76 wainwrightlaw04_SpansBack.ins wainwrightlaw04_SpansBack.outs wainwrightlaw04_SpansBack.code wainwrightlaw04_SpansBack.ann = wainwrightlaw04_SpansBack := by
  funext a
  kernel_rfl
theorem wainwrightlaw04_SpansBack.ok : wainwrightlaw04_SpansBack.ann.ok Try.prog 0 76 :=
  ann_ok (by kernel_rfl) (by kernel_rfl) (show ∀ c ∈ ([wainwrightlaw04_lives.c, wainwrightlaw04_early.c, spans_Of.c, spans_Right.c, spans_Map.c, wainwrightref01_Same.c, spans_At.c, spans_Blocks.c, spans_At.c] : List Callee'), c.ok Try.prog from cs_cons wainwrightlaw04_lives.sound (cs_cons wainwrightlaw04_early.sound (cs_cons spans_Of.sound (cs_cons spans_Right.sound (cs_cons spans_Map.sound (cs_cons wainwrightref01_Same.sound (cs_cons spans_At.sound (cs_cons spans_Blocks.sound (cs_cons spans_At.sound cs_nil)))))))))
    (show ∀ c ∈ ([wainwrightlaw04_lives.c, wainwrightlaw04_early.c, spans_Of.c, spans_Right.c, spans_Map.c, wainwrightref01_Same.c, spans_At.c, spans_Blocks.c, spans_At.c] : List Callee'), FunQuiet c.F from cs_cons wainwrightlaw04_lives.quiet (cs_cons wainwrightlaw04_early.quiet (cs_cons spans_Of.quiet (cs_cons spans_Right.quiet (cs_cons spans_Map.quiet (cs_cons wainwrightref01_Same.quiet (cs_cons spans_At.quiet (cs_cons spans_Blocks.quiet (cs_cons spans_At.quiet cs_nil)))))))))
theorem wainwrightlaw04_SpansBack.sound : wainwrightlaw04_SpansBack.c.ok Try.prog := by
  refine ⟨?_, Try.f4, wainwrightlaw04_SpansBack.code, Try.func4, rfl, by decide⟩
  have h := fn_sound tt_ok mix_ok (x := wainwrightlaw04_SpansBack.ann) (ins := wainwrightlaw04_SpansBack.ins) (outs := wainwrightlaw04_SpansBack.outs) (N := 76) Try.func4 (c := wainwrightlaw04_SpansBack.code) rfl rfl (by kernel_rfl) (by kernel_rfl) wainwrightlaw04_SpansBack.ok (by decide)
  rw [wainwrightlaw04_SpansBack.eq] at h
  exact h

/-! ### wainwright/spans.Cut: function 19 -/
noncomputable def spans_Cut.l1 : ((List (Int × Int × Int)) × Int × (List (Int × Int × Int)) × Int × Int) → Option (((List (Int × Int × Int)) × Int × (List (Int × Int × Int)) × Int × Int) ⊕ (List (Int × Int × Int))) := fun (out5, n1, t11, t12, t13) =>
  if decide (t13 < t12) = true then
    if 0 ≤ t13 ∧ t13 < (t11.length : Int) then
      if decide ((t11.getD t13.toNat (0, (0, 0))).1 ≥ n1) = true then
        some (.inr out5)
      else
        if roomOk (out5.length + (([((t11.getD t13.toNat (0, (0, 0))).1, ((t11.getD t13.toNat (0, (0, 0))).2).1, (if IntKind.i64.wrap (n1 - ((t11.getD t13.toNat (0, (0, 0))).1)) < ((t11.getD t13.toNat (0, (0, 0))).2).2 then IntKind.i64.wrap (n1 - ((t11.getD t13.toNat (0, (0, 0))).1)) else ((t11.getD t13.toNat (0, (0, 0))).2).2))] : List (Int × Int × Int))).length) 24 then
          some (.inl ((out5 ++ (([((t11.getD t13.toNat (0, (0, 0))).1, ((t11.getD t13.toNat (0, (0, 0))).2).1, (if IntKind.i64.wrap (n1 - ((t11.getD t13.toNat (0, (0, 0))).1)) < ((t11.getD t13.toNat (0, (0, 0))).2).2 then IntKind.i64.wrap (n1 - ((t11.getD t13.toNat (0, (0, 0))).1)) else ((t11.getD t13.toNat (0, (0, 0))).2).2))] : List (Int × Int × Int))), n1, t11, t12, IntKind.i64.wrap (t13 + 1))))
        else none
    else none
  else
    some (.inr out5)

noncomputable def spans_Cut : ((List (Int × Int × Int)) × Int) → Option (List (Int × Int × Int)) := fun (l0, n1) =>
  (spans_Right l0).bind fun r9 =>
    if (!r9) = true then
      some []
    else
      (loopO spans_Cut.l1 (([], n1, l0, (l0.length : Int), 0))).bind fun out5 =>
        some out5

def spans_Cut.ins : Spec := ⟨35, 0, [], [0, 1], (.cons (.v (.sl (.st (.pair I (.pair I I))))) (.cons (.v I) .nil))⟩
def spans_Cut.outs : List Spec := [⟨35, 0, [], [4], (.cons (.v (.sl (.st (.pair I (.pair I I))))) .nil)⟩]
noncomputable def spans_Cut.c : Callee' := ⟨19, mkFits spans_Cut.ins spans_Cut.outs, mkFun spans_Cut.ins spans_Cut.outs spans_Cut⟩
theorem spans_Cut.quiet : FunQuiet spans_Cut.c.F := mkFun_quiet rfl rfl
noncomputable def spans_Cut.ann : Ann :=
  (.seq (.reg []) (.seq (.seq (.reg [.std, .callq [spans_Right.c]]) (.cond (.seq (.reg []) .std) .std)) (.seq (.reg []) (.seq (.seq (.reg []) (.block (.loop ⟨35, 0, [.arr (.st (.pair I (.pair I I)))], [1, 5, 11, 12, 13], (.cons (.v I) (.cons (.ref 0) (.cons (.v (.sl (.st (.pair I (.pair I I))))) (.cons (.v I) (.cons (.v I) .nil)))))⟩ [(.exit 0, ⟨35, 0, [.arr (.st (.pair I (.pair I I)))], [5], (.cons (.ref 0) .nil)⟩)]
  (.seq (.reg []) (.seq (.cond .std .std) (.seq (.block (.seq (.reg []) (.seq (.seq (.reg []) (.cond .std .std)) (.seq (.reg []) (.reg [.std, .std, .inl (.st (.pair I (.pair I I))), .obj (.st (.pair I (.pair I I)))]))))) (.reg []))))))) (.seq (.reg []) .std)))))
noncomputable def spans_Cut.code : Code := match Try.f19.body with | some c => c | none => .skip
theorem spans_Cut.eq : absFn tt 35 spans_Cut.ins spans_Cut.outs spans_Cut.code spans_Cut.ann = spans_Cut := by
  funext a
  kernel_rfl
theorem spans_Cut.ok : spans_Cut.ann.ok Try.prog 0 35 :=
  ann_ok (by kernel_rfl) (by kernel_rfl) (show ∀ c ∈ ([spans_Right.c] : List Callee'), c.ok Try.prog from cs_cons spans_Right.sound cs_nil)
    (show ∀ c ∈ ([spans_Right.c] : List Callee'), FunQuiet c.F from cs_cons spans_Right.quiet cs_nil)
theorem spans_Cut.sound : spans_Cut.c.ok Try.prog := by
  refine ⟨?_, Try.f19, spans_Cut.code, Try.func19, rfl, by decide⟩
  have h := fn_sound tt_ok mix_ok (x := spans_Cut.ann) (ins := spans_Cut.ins) (outs := spans_Cut.outs) (N := 35) Try.func19 (c := spans_Cut.code) rfl rfl (by kernel_rfl) (by kernel_rfl) spans_Cut.ok (by decide)
  rw [spans_Cut.eq] at h
  exact h

/-! ### wainwright/wainwrightlaw04.SpansCut: function 5 -/
noncomputable def wainwrightlaw04_SpansCut : (List Int × Int × Int) → Option (Bool) := fun (m0, a1, b2) =>
  (wainwrightlaw04_lives ()).bind fun r9 =>
    if (!r9) = true then
      some false
    else
      (wainwrightlaw04_early m0).bind fun r12 =>
        (spans_Of r12).bind fun r14 =>
          (spans_Cut (r14, (if (r12.length : Int) < (if 0 > a1 then 0 else a1) then (r12.length : Int) else (if 0 > a1 then 0 else a1)))).bind fun r22 =>
            if 0 ≤ (if (r12.length : Int) < (if 0 > a1 then 0 else a1) then (r12.length : Int) else (if 0 > a1 then 0 else a1)) ∧ (if (r12.length : Int) < (if 0 > a1 then 0 else a1) then (r12.length : Int) else (if 0 > a1 then 0 else a1)) ≤ (r12.length : Int) then
              (spans_Of (r12.take ((if (r12.length : Int) < (if 0 > a1 then 0 else a1) then (r12.length : Int) else (if 0 > a1 then 0 else a1))).toNat)).bind fun r26 =>
                (wainwrightref04_Same (r22, r26)).bind fun r27 =>
                  if r27 = true then
                    (spans_Cut (r14, a1)).bind fun r31 =>
                      (spans_Cut (r31, b2)).bind fun r33 =>
                        (spans_Cut (r14, (if b2 < a1 then b2 else a1))).bind fun r38 =>
                          (wainwrightref04_Same (r33, r38)).bind fun r39 =>
                            some r39
                  else
                    some false
            else none

def wainwrightlaw04_SpansCut.ins : Spec := ⟨41, 0, [], [0, 1, 2], (.cons (.v (.sl I)) (.cons (.v I) (.cons (.v I) .nil)))⟩
def wainwrightlaw04_SpansCut.outs : List Spec := [⟨41, 0, [], [6], (.cons (.v .bool) .nil)⟩]
noncomputable def wainwrightlaw04_SpansCut.c : Callee' := ⟨5, mkFits wainwrightlaw04_SpansCut.ins wainwrightlaw04_SpansCut.outs, mkFun wainwrightlaw04_SpansCut.ins wainwrightlaw04_SpansCut.outs wainwrightlaw04_SpansCut⟩
theorem wainwrightlaw04_SpansCut.quiet : FunQuiet wainwrightlaw04_SpansCut.c.F := mkFun_quiet rfl rfl
noncomputable def wainwrightlaw04_SpansCut.ann : Ann :=
  (.seq (.reg []) (.seq (.seq (.reg [.callq [wainwrightlaw04_lives.c]]) (.cond (.seq (.reg []) .std) .std)) (.seq (.reg [.std, .callq [wainwrightlaw04_early.c]]) (.seq (.reg [.std, .callq [spans_Of.c]]) (.seq (.reg []) (.seq (.drw [.std, .std, .callq [spans_Cut.c], .std, .std, .std, .callq [spans_Of.c], .callq [wainwrightref04_Same.c], .std, .std, .std, .callq [spans_Cut.c], .std, .callq [spans_Cut.c], .std, .std, .std, .std, .callq [spans_Cut.c], .callq [wainwrightref04_Same.c]]) .std))))))
noncomputable def wainwrightlaw04_SpansCut.code : Code := match Try.f5.body with | some c => c | none => .skip
theorem wainwrightlaw04_SpansCut.eq : absFn tt 41 wainwrightlaw04_SpansCut.ins wainwrightlaw04_SpansCut.outs wainwrightlaw04_SpansCut.code wainwrightlaw04_SpansCut.ann = wainwrightlaw04_SpansCut := by
  funext a
  kernel_rfl
theorem wainwrightlaw04_SpansCut.ok : wainwrightlaw04_SpansCut.ann.ok Try.prog 0 41 :=
  ann_ok (by kernel_rfl) (by kernel_rfl) (show ∀ c ∈ ([wainwrightlaw04_lives.c, wainwrightlaw04_early.c, spans_Of.c, spans_Cut.c, spans_Of.c, wainwrightref04_Same.c, spans_Cut.c, spans_Cut.c, spans_Cut.c, wainwrightref04_Same.c] : List Callee'), c.ok Try.prog from cs_cons wainwrightlaw04_lives.sound (cs_cons wainwrightlaw04_early.sound (cs_cons spans_Of.sound (cs_cons spans_Cut.sound (cs_cons spans_Of.sound (cs_cons wainwrightref04_Same.sound (cs_cons spans_Cut.sound (cs_cons spans_Cut.sound (cs_cons spans_Cut.sound (cs_cons wainwrightref04_Same.sound cs_nil))))))))))
    (show ∀ c ∈ ([wainwrightlaw04_lives.c, wainwrightlaw04_early.c, spans_Of.c, spans_Cut.c, spans_Of.c, wainwrightref04_Same.c, spans_Cut.c, spans_Cut.c, spans_Cut.c, wainwrightref04_Same.c] : List Callee'), FunQuiet c.F from cs_cons wainwrightlaw04_lives.quiet (cs_cons wainwrightlaw04_early.quiet (cs_cons spans_Of.quiet (cs_cons spans_Cut.quiet (cs_cons spans_Of.quiet (cs_cons wainwrightref04_Same.quiet (cs_cons spans_Cut.quiet (cs_cons spans_Cut.quiet (cs_cons spans_Cut.quiet (cs_cons wainwrightref04_Same.quiet cs_nil))))))))))
theorem wainwrightlaw04_SpansCut.sound : wainwrightlaw04_SpansCut.c.ok Try.prog := by
  refine ⟨?_, Try.f5, wainwrightlaw04_SpansCut.code, Try.func5, rfl, by decide⟩
  have h := fn_sound tt_ok mix_ok (x := wainwrightlaw04_SpansCut.ann) (ins := wainwrightlaw04_SpansCut.ins) (outs := wainwrightlaw04_SpansCut.outs) (N := 41) Try.func5 (c := wainwrightlaw04_SpansCut.code) rfl rfl (by kernel_rfl) (by kernel_rfl) wainwrightlaw04_SpansCut.ok (by decide)
  rw [wainwrightlaw04_SpansCut.eq] at h
  exact h

/-! ### wainwright/wainwrightlaw04.SpansOnly: function 6 -/
noncomputable def wainwrightlaw04_SpansOnly : (List (Int × Int × Int)) → Option (Bool) := fun l0 =>
  (wainwrightlaw04_lives ()).bind fun r4 =>
    if (!r4) = true then
      some false
    else
      (wainwrightlaw04_few l0).bind fun r7 =>
        (spans_Right r7).bind fun r9 =>
          if (!r9) = true then
            (spans_Cut (r7, 5)).bind fun r12 =>
              some ((((r12.length : Int) == 0)))
          else
            ((
              if decide ((r7.length : Int) > 0) = true then
                if 0 ≤ IntKind.i64.wrap ((r7.length : Int) - 1) ∧ IntKind.i64.wrap ((r7.length : Int) - 1) < (r7.length : Int) then
                  if 0 ≤ IntKind.i64.wrap ((r7.length : Int) - 1) ∧ IntKind.i64.wrap ((r7.length : Int) - 1) < (r7.length : Int) then
                    some (((r7, IntKind.i64.wrap (((r7.getD ((IntKind.i64.wrap ((r7.length : Int) - 1)).toNat) (0, (0, 0))).1) + (((r7.getD ((IntKind.i64.wrap ((r7.length : Int) - 1)).toNat) (0, (0, 0))).2).2)))))
                  else none
                else none
              else
                some (((r7, 0)))) : Option ((List (Int × Int × Int)) × Int)).bind fun (l0, n3) =>
              (spans_Map (l0, n3)).bind fun r35 =>
                (spans_Of r35).bind fun r36 =>
                  (wainwrightref04_Same (r36, l0)).bind fun r38 =>
                    some r38

def wainwrightlaw04_SpansOnly.ins : Spec := ⟨39, 0, [], [0], (.cons (.v (.sl (.st (.pair I (.pair I I))))) .nil)⟩
def wainwrightlaw04_SpansOnly.outs : List Spec := [⟨39, 0, [], [2], (.cons (.v .bool) .nil)⟩]
noncomputable def wainwrightlaw04_SpansOnly.c : Callee' := ⟨6, mkFits wainwrightlaw04_SpansOnly.ins wainwrightlaw04_SpansOnly.outs, mkFun wainwrightlaw04_SpansOnly.ins wainwrightlaw04_SpansOnly.outs wainwrightlaw04_SpansOnly⟩
theorem wainwrightlaw04_SpansOnly.quiet : FunQuiet wainwrightlaw04_SpansOnly.c.F := mkFun_quiet rfl rfl
noncomputable def wainwrightlaw04_SpansOnly.ann : Ann :=
  (.seq (.reg []) (.seq (.seq (.reg [.callq [wainwrightlaw04_lives.c]]) (.cond (.seq (.reg []) .std) .std)) (.seq (.reg [.std, .callq [wainwrightlaw04_few.c]]) (.seq (.seq (.reg [.std, .callq [spans_Right.c]]) (.cond (.seq (.reg [.std, .callq [spans_Cut.c]]) .std) .std)) (.seq (.reg []) (.join [(.norm, ⟨39, 0, [], [0, 3], (.cons (.v (.sl (.st (.pair I (.pair I I))))) (.cons (.v I) .nil))⟩)]
  (.seq (.reg []) (.cond (.drw []) .std)) (.seq (.reg [.std, .std, .callq [spans_Map.c], .callq [spans_Of.c], .std, .callq [wainwrightref04_Same.c]]) .std)))))))
noncomputable def wainwrightlaw04_SpansOnly.code : Code := match Try.f6.body with | some c => c | none => .skip
theorem wainwrightlaw04_SpansOnly.eq : absFn tt 39 wainwrightlaw04_SpansOnly.ins wainwrightlaw04_SpansOnly.outs wainwrightlaw04_SpansOnly.code wainwrightlaw04_SpansOnly.ann = wainwrightlaw04_SpansOnly := by
  funext a
  kernel_rfl
theorem wainwrightlaw04_SpansOnly.ok : wainwrightlaw04_SpansOnly.ann.ok Try.prog 0 39 :=
  ann_ok (by kernel_rfl) (by kernel_rfl) (show ∀ c ∈ ([wainwrightlaw04_lives.c, wainwrightlaw04_few.c, spans_Right.c, spans_Cut.c, spans_Map.c, spans_Of.c, wainwrightref04_Same.c] : List Callee'), c.ok Try.prog from cs_cons wainwrightlaw04_lives.sound (cs_cons wainwrightlaw04_few.sound (cs_cons spans_Right.sound (cs_cons spans_Cut.sound (cs_cons spans_Map.sound (cs_cons spans_Of.sound (cs_cons wainwrightref04_Same.sound cs_nil)))))))
    (show ∀ c ∈ ([wainwrightlaw04_lives.c, wainwrightlaw04_few.c, spans_Right.c, spans_Cut.c, spans_Map.c, spans_Of.c, wainwrightref04_Same.c] : List Callee'), FunQuiet c.F from cs_cons wainwrightlaw04_lives.quiet (cs_cons wainwrightlaw04_few.quiet (cs_cons spans_Right.quiet (cs_cons spans_Cut.quiet (cs_cons spans_Map.quiet (cs_cons spans_Of.quiet (cs_cons wainwrightref04_Same.quiet cs_nil)))))))
theorem wainwrightlaw04_SpansOnly.sound : wainwrightlaw04_SpansOnly.c.ok Try.prog := by
  refine ⟨?_, Try.f6, wainwrightlaw04_SpansOnly.code, Try.func6, rfl, by decide⟩
  have h := fn_sound tt_ok mix_ok (x := wainwrightlaw04_SpansOnly.ann) (ins := wainwrightlaw04_SpansOnly.ins) (outs := wainwrightlaw04_SpansOnly.outs) (N := 39) Try.func6 (c := wainwrightlaw04_SpansOnly.code) rfl rfl (by kernel_rfl) (by kernel_rfl) wainwrightlaw04_SpansOnly.ok (by decide)
  rw [wainwrightlaw04_SpansOnly.eq] at h
  exact h

end Go.Proofs.Ytnbhmifidhoblaa.Abs
