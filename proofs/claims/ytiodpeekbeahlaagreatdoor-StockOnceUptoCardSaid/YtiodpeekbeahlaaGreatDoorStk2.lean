/- The functions as the abstract machine computes them: printed by gen2.py (own work). -/
import Derived.Test.YtiodpeekbeahlaaGreatDoorStk
namespace Go.Proofs.YtiodpeekbeahlaaGreatDoor.Abs
open Go Go.Proofs
set_option maxRecDepth 100000
set_option linter.unusedVariables false


/-! ### (*wainwright/stock.store).use: function 91 -/
noncomputable def stock_store_use_1.l1 : (((Int × Int × Int × List UInt8) × (Bool × Int) × (List (Int × List UInt8)) × (Int × Int) × List (List UInt8) × List (Int × List UInt8)) × Int × Int × Int) → Option ((((Int × Int × Int × List UInt8) × (Bool × Int) × (List (Int × List UInt8)) × (Int × Int) × List (List UInt8) × List (Int × List UInt8)) × Int × Int × Int) ⊕ (((Int × Int × Int × List UInt8) × (Bool × Int) × (List (Int × List UInt8)) × (Int × Int) × List (List UInt8) × List (Int × List UInt8)) ⊕ (((Int × Int × Int × List UInt8) × (Bool × Int) × (List (Int × List UInt8)) × (Int × Int) × List (List UInt8) × List (Int × List UInt8)) × Int))) := fun (((s0b, s0c, s0d, s0e), (o2b, o2c), o3, (o4c, o4d), o5, o6), at1, n2, i7) =>
  if decide (i7 < IntKind.i64.wrap (at1 + n2)) = true then
    (marks_Set (s0e, i7, true)).bind fun r23 =>
      (deal_Deal_Write_1 (((o2b, o2c), o3, (o4c, o4d), o5, o6), i7, [])).bind fun (((r31, r31_2), r31_3, (r31_4, r31_5), r31_6, r31_7), r31_8) =>
        if (r31_8 != 0) = true then
          some (.inr (.inr (((((s0b, s0c, s0d, r23), (r31, r31_2), r31_3, (r31_4, r31_5), r31_6, r31_7), r31_8)))))
        else
          some (.inl ((((s0b, s0c, s0d, r23), (r31, r31_2), r31_3, (r31_4, r31_5), r31_6, r31_7), at1, n2, IntKind.i64.wrap (i7 + 1))))
  else
    some (.inr (.inl (((s0b, s0c, s0d, s0e), (o2b, o2c), o3, (o4c, o4d), o5, o6))))

noncomputable def stock_store_use_1 : (((Int × Int × Int × List UInt8) × (Bool × Int) × (List (Int × List UInt8)) × (Int × Int) × List (List UInt8) × List (Int × List UInt8)) × Int × Int) → Option (((Int × Int × Int × List UInt8) × (Bool × Int) × (List (Int × List UInt8)) × (Int × Int) × List (List UInt8) × List (Int × List UInt8)) × Int) := fun (((s0b, s0c, s0d, s0e), (o2b, o2c), o3, (o4c, o4d), o5, o6), at1, n2) =>
  (loopO stock_store_use_1.l1 ((((s0b, s0c, s0d, s0e), (o2b, o2c), o3, (o4c, o4d), o5, o6), at1, n2, at1))).bind fun d => match d with
  | .inl ((s0b, s0c, s0d, s0e), (o2b, o2c), o3, (o4c, o4d), o5, o6) =>
    (deal_Deal_Write_1 (((o2b, o2c), o3, (o4c, o4d), o5, o6), 42, s0e)).bind fun (((r43, r43_2), r43_3, (r43_4, r43_5), r43_6, r43_7), r43_8) =>
      some (((((s0b, s0c, s0d, s0e), (r43, r43_2), r43_3, (r43_4, r43_5), r43_6, r43_7), r43_8)))
  | .inr ((((o0b, o0c, o0d, o0e), (o2b, o2c), o3, (o4c, o4d), o5, o6), t6)) =>
    some (((((o0b, o0c, o0d, o0e), (o2b, o2c), o3, (o4c, o4d), o5, o6), t6)))

def stock_store_use_1.ins : Spec := ⟨44, 0, [.box (.cons (.ref 1) (.cons (.v I) (.cons (.v I) (.cons (.v I) (.cons (.v .str) .nil))))), .box (.cons (.ref 2) (.cons (.ref 3) .nil)), .box (.cons (.ref 4) (.cons (.v .bool) (.cons (.v I) .nil))), .map I .str, .box (.cons (.ref 5) (.cons (.ref 6) (.cons (.v I) (.cons (.v I) .nil)))), .arr .str, .map I .str], [0, 1, 2], (.cons (.ref 0) (.cons (.v I) (.cons (.v I) .nil)))⟩
def stock_store_use_1.outs : List Spec := [⟨44, 7, [.box (.cons (.ref 1) (.cons (.v I) (.cons (.v I) (.cons (.v I) (.cons (.v .str) .nil))))), .box (.cons (.ref 2) (.cons (.ref 3) .nil)), .box (.cons (.ref 4) (.cons (.v .bool) (.cons (.v I) .nil))), .map I .str, .box (.cons (.ref 5) (.cons (.ref 6) (.cons (.v I) (.cons (.v I) .nil)))), .arr .str, .map I .str], [6], (.cons (.v I) .nil)⟩]
noncomputable def stock_store_use_1.c : Callee' := ⟨91, mkFits stock_store_use_1.ins stock_store_use_1.outs, mkFun stock_store_use_1.ins stock_store_use_1.outs stock_store_use_1, mkFun_nat _ _ _⟩
noncomputable def stock_store_use_1.ann : Ann :=
  (.seq (.reg []) (.seq (.seq (.reg []) (.block (.loop ⟨44, 7, [.box (.cons (.ref 1) (.cons (.v I) (.cons (.v I) (.cons (.v I) (.cons (.v .str) .nil))))), .box (.cons (.ref 2) (.cons (.ref 3) .nil)), .box (.cons (.ref 4) (.cons (.v .bool) (.cons (.v I) .nil))), .map I .str, .box (.cons (.ref 5) (.cons (.ref 6) (.cons (.v I) (.cons (.v I) .nil)))), .arr .str, .map I .str], [0, 1, 2, 7], (.cons (.ref 0) (.cons (.v I) (.cons (.v I) (.cons (.v I) .nil))))⟩ [(.exit 0, ⟨44, 7, [.box (.cons (.ref 1) (.cons (.v I) (.cons (.v I) (.cons (.v I) (.cons (.v .str) .nil))))), .box (.cons (.ref 2) (.cons (.ref 3) .nil)), .box (.cons (.ref 4) (.cons (.v .bool) (.cons (.v I) .nil))), .map I .str, .box (.cons (.ref 5) (.cons (.ref 6) (.cons (.v I) (.cons (.v I) .nil)))), .arr .str, .map I .str], [0], (.cons (.ref 0) .nil)⟩), (.ret, ⟨44, 7, [.box (.cons (.ref 1) (.cons (.v I) (.cons (.v I) (.cons (.v I) (.cons (.v .str) .nil))))), .box (.cons (.ref 2) (.cons (.ref 3) .nil)), .box (.cons (.ref 4) (.cons (.v .bool) (.cons (.v I) .nil))), .map I .str, .box (.cons (.ref 5) (.cons (.ref 6) (.cons (.v I) (.cons (.v I) .nil)))), .arr .str, .map I .str], [6], (.cons (.v I) .nil)⟩)]
  (.seq (.seq (.reg []) (.cond .std .std)) (.seq (.block (.seq (.reg [.std, .std, .std, .std, .std, .std, .callq [marks_Set.c]]) (.seq (.reg [.std, .std, .std, .std, .std, .call [deal_Deal_Write_1.c]]) (.seq (.reg []) (.cond (.seq (.reg []) .std) .std))))) (.reg [])))))) (.seq (.drw [.std, .std, .std, .std, .std, .std, .std, .std, .call [deal_Deal_Write_1.c]]) .std)))
noncomputable def stock_store_use_1.code : Code := match Tryz.f91.body with | some c => c | none => .skip
theorem stock_store_use_1.eq : absFn tt 44 stock_store_use_1.ins stock_store_use_1.outs stock_store_use_1.code stock_store_use_1.ann = stock_store_use_1 := by
  funext a
  kernel_rfl
theorem stock_store_use_1.ok : stock_store_use_1.ann.ok Tryz.prog 7 44 :=
  ann_ok (by kernel_rfl) (by kernel_rfl) (show ∀ c ∈ ([marks_Set.c, deal_Deal_Write_1.c, deal_Deal_Write_1.c] : List Callee'), c.ok Tryz.prog from cs_cons marks_Set.sound (cs_cons deal_Deal_Write_1.sound (cs_cons deal_Deal_Write_1.sound cs_nil)))
    (show ∀ c ∈ ([marks_Set.c] : List Callee'), FunQuiet c.F from cs_cons marks_Set.quiet cs_nil)
theorem stock_store_use_1.sound : stock_store_use_1.c.ok Tryz.prog := by
  refine ⟨?_, Tryz.f91, stock_store_use_1.code, Tryz.func91, rfl, by decide⟩
  have h := fn_sound tt_ok mix_ok (x := stock_store_use_1.ann) (ins := stock_store_use_1.ins) (outs := stock_store_use_1.outs) (N := 44) Tryz.func91 (c := stock_store_use_1.code) rfl rfl (by kernel_rfl) (by kernel_rfl) stock_store_use_1.ok (by decide)
  rw [stock_store_use_1.eq] at h
  exact h

/-! ### wainwright/stock.Run: function 40 -/
noncomputable def stock_Run_1 : (((Bool × Int) × (List (Int × List UInt8)) × (Int × Int) × List (List UInt8) × List (Int × List UInt8)) × Int) → Option (((Bool × Int) × (List (Int × List UInt8)) × (Int × Int) × List (List UInt8) × List (Int × List UInt8)) × Int × Int × Int) := fun (((o1b, o1c), o2, (o3c, o3d), o4, o5), n1) =>
  (stock_open_1 ((o1b, o1c), o2, (o3c, o3d), o4, o5)).bind fun d => match d with
  | .inl (((r12, r12_2), r12_3, (r12_4, r12_5), r12_6, r12_7), r12_8) =>
    if (r12_8 != 0) = true then
      some (((((r12, r12_2), r12_3, (r12_4, r12_5), r12_6, r12_7), 0, 0, r12_8)))
    else
      if decide (n1 < 1) = true then
        some (((((r12, r12_2), r12_3, (r12_4, r12_5), r12_6, r12_7), 0, 0, 1)))
      else none
  | .inr ((((r12b, r12_2b), r12_3b, (r12_4b, r12_5b), r12_6b, r12_7b, r12_8b, r12_9b, r12_10b, r12_11b), r12_12b)) =>
    if (r12_12b != 0) = true then
      some (((((r12b, r12_2b), r12_3b, (r12_4b, r12_5b), r12_6b, r12_7b), 0, 0, r12_12b)))
    else
      if decide (n1 < 1) = true then
        some (((((r12b, r12_2b), r12_3b, (r12_4b, r12_5b), r12_6b, r12_7b), 0, 0, 1)))
      else
        (stock_store_row_1 (((((r12_6b, r12_7b, r12_4b, r12_5b), r12b, r12_2b), r12_3b), r12_8b, r12_9b, r12_10b, r12_11b), n1)).bind fun (r25, r25_2) =>
          if (r25_2 == 0) = true then
            some (((((r12b, r12_2b), r12_3b, (r12_4b, r12_5b), r12_6b, r12_7b), 0, 0, 10)))
          else
            (stock_store_use_1 (((r12_8b, r12_9b, r12_10b, r12_11b), (r12b, r12_2b), r12_3b, (r12_4b, r12_5b), r12_6b, r12_7b), r25, r25_2)).bind fun (((r35, r35_2, r35_3, r35_4), (r35_5, r35_6), r35_7, (r35_8, r35_9), r35_10, r35_11), r35_12) =>
              some (((((r35_5, r35_6), r35_7, (r35_8, r35_9), r35_10, r35_11), r25, r25_2, r35_12)))

def stock_Run_1.ins : Spec := ⟨36, 0, [.box (.cons (.ref 1) (.cons (.ref 2) .nil)), .box (.cons (.ref 3) (.cons (.v .bool) (.cons (.v I) .nil))), .map I .str, .box (.cons (.ref 4) (.cons (.ref 5) (.cons (.v I) (.cons (.v I) .nil)))), .arr .str, .map I .str], [0, 1], (.cons (.ref 0) (.cons (.v I) .nil))⟩
def stock_Run_1.outs : List Spec := [⟨36, 6, [.box (.cons (.ref 1) (.cons (.ref 2) .nil)), .box (.cons (.ref 3) (.cons (.v .bool) (.cons (.v I) .nil))), .map I .str, .box (.cons (.ref 4) (.cons (.ref 5) (.cons (.v I) (.cons (.v I) .nil)))), .arr .str, .map I .str], [4, 5, 6], (.cons (.v I) (.cons (.v I) (.cons (.v I) .nil)))⟩]
noncomputable def stock_Run_1.c : Callee' := ⟨40, mkFits stock_Run_1.ins stock_Run_1.outs, mkFun stock_Run_1.ins stock_Run_1.outs stock_Run_1, mkFun_nat _ _ _⟩
noncomputable def stock_Run_1.ann : Ann :=
  (.seq (.reg []) (.seq (.reg [.std, .call [stock_open_1.c]]) (.seq (.block (.seq (.reg []) (.cond (.seq (.reg []) .std) (.seq (.reg []) (.cond (.seq (.reg []) .std) .std))))) (.seq (.reg [.std, .std, .callq [stock_store_row_1.c]]) (.seq (.seq (.reg []) (.cond (.seq (.reg []) .std) .std)) (.seq (.reg [.std, .std, .std, .std, .std, .call [stock_store_use_1.c]]) .std))))))
noncomputable def stock_Run_1.code : Code := match Tryz.f40.body with | some c => c | none => .skip
theorem stock_Run_1.eq : absFn tt 36 stock_Run_1.ins stock_Run_1.outs stock_Run_1.code stock_Run_1.ann = stock_Run_1 := by
  funext a
  kernel_rfl
theorem stock_Run_1.ok : stock_Run_1.ann.ok Tryz.prog 6 36 :=
  ann_ok (by kernel_rfl) (by kernel_rfl) (show ∀ c ∈ ([stock_open_1.c, stock_store_row_1.c, stock_store_use_1.c] : List Callee'), c.ok Tryz.prog from cs_cons stock_open_1.sound (cs_cons stock_store_row_1.sound (cs_cons stock_store_use_1.sound cs_nil)))
    (show ∀ c ∈ ([stock_store_row_1.c] : List Callee'), FunQuiet c.F from cs_cons stock_store_row_1.quiet cs_nil)
theorem stock_Run_1.sound : stock_Run_1.c.ok Tryz.prog := by
  refine ⟨?_, Tryz.f40, stock_Run_1.code, Tryz.func40, rfl, by decide⟩
  have h := fn_sound tt_ok mix_ok (x := stock_Run_1.ann) (ins := stock_Run_1.ins) (outs := stock_Run_1.outs) (N := 36) Tryz.func40 (c := stock_Run_1.code) rfl rfl (by kernel_rfl) (by kernel_rfl) stock_Run_1.ok (by decide)
  rw [stock_Run_1.eq] at h
  exact h

/-! ### wainwright/stock.Take: function 39 -/
noncomputable def stock_Take_1 : ((Bool × Int) × (List (Int × List UInt8)) × (Int × Int) × List (List UInt8) × List (Int × List UInt8)) → Option (((Bool × Int) × (List (Int × List UInt8)) × (Int × Int) × List (List UInt8) × List (Int × List UInt8)) × Int × Int) := fun ((o1b, o1c), o2, (o3c, o3d), o4, o5) =>
  (stock_Run_1 (((o1b, o1c), o2, (o3c, o3d), o4, o5), 1)).bind fun (((r9, r9_2), r9_3, (r9_4, r9_5), r9_6, r9_7), r9_8, r9_9, r9_10) =>
    some (((((r9, r9_2), r9_3, (r9_4, r9_5), r9_6, r9_7), r9_8, r9_10)))

def stock_Take_1.ins : Spec := ⟨15, 0, [.box (.cons (.ref 1) (.cons (.ref 2) .nil)), .box (.cons (.ref 3) (.cons (.v .bool) (.cons (.v I) .nil))), .map I .str, .box (.cons (.ref 4) (.cons (.ref 5) (.cons (.v I) (.cons (.v I) .nil)))), .arr .str, .map I .str], [0], (.cons (.ref 0) .nil)⟩
def stock_Take_1.outs : List Spec := [⟨15, 6, [.box (.cons (.ref 1) (.cons (.ref 2) .nil)), .box (.cons (.ref 3) (.cons (.v .bool) (.cons (.v I) .nil))), .map I .str, .box (.cons (.ref 4) (.cons (.ref 5) (.cons (.v I) (.cons (.v I) .nil)))), .arr .str, .map I .str], [2, 3], (.cons (.v I) (.cons (.v I) .nil))⟩]
noncomputable def stock_Take_1.c : Callee' := ⟨39, mkFits stock_Take_1.ins stock_Take_1.outs, mkFun stock_Take_1.ins stock_Take_1.outs stock_Take_1, mkFun_nat _ _ _⟩
noncomputable def stock_Take_1.ann : Ann :=
  (.seq (.reg []) (.seq (.reg [.std, .call [stock_Run_1.c]]) (.seq (.reg []) .std)))
noncomputable def stock_Take_1.code : Code := match Tryz.f39.body with | some c => c | none => .skip
theorem stock_Take_1.eq : absFn tt 15 stock_Take_1.ins stock_Take_1.outs stock_Take_1.code stock_Take_1.ann = stock_Take_1 := by
  funext a
  kernel_rfl
theorem stock_Take_1.ok : stock_Take_1.ann.ok Tryz.prog 6 15 :=
  ann_ok (by kernel_rfl) (by kernel_rfl) (show ∀ c ∈ ([stock_Run_1.c] : List Callee'), c.ok Tryz.prog from cs_cons stock_Run_1.sound cs_nil)
    (show ∀ c ∈ ([] : List Callee'), FunQuiet c.F from cs_nil)
theorem stock_Take_1.sound : stock_Take_1.c.ok Tryz.prog := by
  refine ⟨?_, Tryz.f39, stock_Take_1.code, Tryz.func39, rfl, by decide⟩
  have h := fn_sound tt_ok mix_ok (x := stock_Take_1.ann) (ins := stock_Take_1.ins) (outs := stock_Take_1.outs) (N := 15) Tryz.func39 (c := stock_Take_1.code) rfl rfl (by kernel_rfl) (by kernel_rfl) stock_Take_1.ok (by decide)
  rw [stock_Take_1.eq] at h
  exact h

/-! ### wainwright/stock.Drop: function 41 -/
noncomputable def stock_Drop_1 : (((Bool × Int) × (List (Int × List UInt8)) × (Int × Int) × List (List UInt8) × List (Int × List UInt8)) × Int) → Option (((Bool × Int) × (List (Int × List UInt8)) × (Int × Int) × List (List UInt8) × List (Int × List UInt8)) × Int) := fun (((o1b, o1c), o2, (o3c, o3d), o4, o5), block1) =>
  (stock_open_1 ((o1b, o1c), o2, (o3c, o3d), o4, o5)).bind fun d => match d with
  | .inl (((r9, r9_2), r9_3, (r9_4, r9_5), r9_6, r9_7), r9_8) =>
    if (r9_8 != 0) = true then
      some (((((r9, r9_2), r9_3, (r9_4, r9_5), r9_6, r9_7), r9_8)))
    else none
  | .inr ((((r9b, r9_2b), r9_3b, (r9_4b, r9_5b), r9_6b, r9_7b, r9_8b, r9_9b, r9_10b, r9_11b), r9_12b)) =>
    if (r9_12b != 0) = true then
      some (((((r9b, r9_2b), r9_3b, (r9_4b, r9_5b), r9_6b, r9_7b), r9_12b)))
    else
      (crown_Owned ((r9_8b, r9_9b, r9_10b), block1)).bind fun r20 =>
        if (!r20) = false then
          (marks_Is (r9_11b, block1)).bind fun r28 =>
            if (!r28) = true then
              some (((((r9b, r9_2b), r9_3b, (r9_4b, r9_5b), r9_6b, r9_7b), 15)))
            else
              (marks_Set (r9_11b, block1, false)).bind fun r37 =>
                (deal_Deal_Write_1 (((r9b, r9_2b), r9_3b, (r9_4b, r9_5b), r9_6b, r9_7b), 42, r37)).bind fun (((r38, r38_2), r38_3, (r38_4, r38_5), r38_6, r38_7), r38_8) =>
                  some (((((r38, r38_2), r38_3, (r38_4, r38_5), r38_6, r38_7), r38_8)))
        else
          some (((((r9b, r9_2b), r9_3b, (r9_4b, r9_5b), r9_6b, r9_7b), 15)))

def stock_Drop_1.ins : Spec := ⟨39, 0, [.box (.cons (.ref 1) (.cons (.ref 2) .nil)), .box (.cons (.ref 3) (.cons (.v .bool) (.cons (.v I) .nil))), .map I .str, .box (.cons (.ref 4) (.cons (.ref 5) (.cons (.v I) (.cons (.v I) .nil)))), .arr .str, .map I .str], [0, 1], (.cons (.ref 0) (.cons (.v I) .nil))⟩
def stock_Drop_1.outs : List Spec := [⟨39, 6, [.box (.cons (.ref 1) (.cons (.ref 2) .nil)), .box (.cons (.ref 3) (.cons (.v .bool) (.cons (.v I) .nil))), .map I .str, .box (.cons (.ref 4) (.cons (.ref 5) (.cons (.v I) (.cons (.v I) .nil)))), .arr .str, .map I .str], [4], (.cons (.v I) .nil)⟩]
noncomputable def stock_Drop_1.c : Callee' := ⟨41, mkFits stock_Drop_1.ins stock_Drop_1.outs, mkFun stock_Drop_1.ins stock_Drop_1.outs stock_Drop_1, mkFun_nat _ _ _⟩
noncomputable def stock_Drop_1.ann : Ann :=
  (.seq (.reg []) (.seq (.reg [.std, .call [stock_open_1.c]]) (.seq (.seq (.reg []) (.cond (.seq (.reg []) .std) .std)) (.seq (.seq (.reg [.std, .std, .std, .std, .std, .callq [crown_Owned.c], .std, .std, .std, .std, .std, .std, .std, .callq [marks_Is.c]]) (.cond (.seq (.reg []) .std) .std)) (.seq (.reg [.std, .std, .std, .std, .std, .std, .callq [marks_Set.c], .call [deal_Deal_Write_1.c]]) .std)))))
noncomputable def stock_Drop_1.code : Code := match Tryz.f41.body with | some c => c | none => .skip
theorem stock_Drop_1.eq : absFn tt 39 stock_Drop_1.ins stock_Drop_1.outs stock_Drop_1.code stock_Drop_1.ann = stock_Drop_1 := by
  funext a
  kernel_rfl
theorem stock_Drop_1.ok : stock_Drop_1.ann.ok Tryz.prog 6 39 :=
  ann_ok (by kernel_rfl) (by kernel_rfl) (show ∀ c ∈ ([stock_open_1.c, crown_Owned.c, marks_Is.c, marks_Set.c, deal_Deal_Write_1.c] : List Callee'), c.ok Tryz.prog from cs_cons stock_open_1.sound (cs_cons crown_Owned.sound (cs_cons marks_Is.sound (cs_cons marks_Set.sound (cs_cons deal_Deal_Write_1.sound cs_nil)))))
    (show ∀ c ∈ ([crown_Owned.c, marks_Is.c, marks_Set.c] : List Callee'), FunQuiet c.F from cs_cons crown_Owned.quiet (cs_cons marks_Is.quiet (cs_cons marks_Set.quiet cs_nil)))
theorem stock_Drop_1.sound : stock_Drop_1.c.ok Tryz.prog := by
  refine ⟨?_, Tryz.f41, stock_Drop_1.code, Tryz.func41, rfl, by decide⟩
  have h := fn_sound tt_ok mix_ok (x := stock_Drop_1.ann) (ins := stock_Drop_1.ins) (outs := stock_Drop_1.outs) (N := 39) Tryz.func41 (c := stock_Drop_1.code) rfl rfl (by kernel_rfl) (by kernel_rfl) stock_Drop_1.ok (by decide)
  rw [stock_Drop_1.eq] at h
  exact h

/-! ### wainwright/wainwrightlaw13.lives: function 34 -/
noncomputable def wainwrightlaw13_lives : Unit → Option (Bool) := fun _ =>
  (wainwrightlaw13_begin (64, [])).bind fun d => match d with
  | .inl _ =>
    some false
  | .inr (.inl (r9b, r9_2b)) =>
    (stock_Free ()).bind fun (r17, r17_2) =>
      (stock_Take ()).bind fun (r25, r25_2) =>
        (stock_Run 3).bind fun (r33, r33_2, r33_3) =>
          if (r17_2 == 0) = true then
            if (r17 == 13) = true then
              if (r25_2 == 0) = true then
                if (r25 == 51) = true then
                  if (r33_3 == 0) = true then
                    if (r33 == 52) = true then
                      if (r33_2 == 3) = true then
                        (stock_Drop 51).bind fun r68 =>
                          some (((r68 == 0)))
                      else
                        some false
                    else
                      some false
                  else
                    some false
                else
                  some false
              else
                some false
            else
              some false
          else
            some false
  | .inr (.inr (((r9c, r9_2c), r9_3c, r9_4c, r9_5c, (r9_6c, r9_7c), r9_8c, r9_9c))) =>
    (stock_Free_1 ((r9c, r9_2c), r9_3c, (r9_6c, r9_7c), r9_8c, r9_9c)).bind fun (((r17a, r17a_2), r17a_3, (r17a_4, r17a_5), r17a_6, r17a_7), r17a_8, r17a_9) =>
      (stock_Take_1 ((r17a, r17a_2), r17a_3, (r17a_4, r17a_5), r17a_6, r17a_7)).bind fun (((r25a, r25a_2), r25a_3, (r25a_4, r25a_5), r25a_6, r25a_7), r25a_8, r25a_9) =>
        (stock_Run_1 (((r25a, r25a_2), r25a_3, (r25a_4, r25a_5), r25a_6, r25a_7), 3)).bind fun (((r33a, r33a_2), r33a_3, (r33a_4, r33a_5), r33a_6, r33a_7), r33a_8, r33a_9, r33a_10) =>
          if (r17a_9 == 0) = true then
            if (r17a_8 == 13) = true then
              if (r25a_9 == 0) = true then
                if (r25a_8 == 51) = true then
                  if (r33a_10 == 0) = true then
                    if (r33a_8 == 52) = true then
                      if (r33a_9 == 3) = true then
                        (stock_Drop_1 (((r33a, r33a_2), r33a_3, (r33a_4, r33a_5), r33a_6, r33a_7), 51)).bind fun (((r68a, r68a_2), r68a_3, (r68a_4, r68a_5), r68a_6, r68a_7), r68a_8) =>
                          some (((r68a_8 == 0)))
                      else
                        some false
                    else
                      some false
                  else
                    some false
                else
                  some false
              else
                some false
            else
              some false
          else
            some false

def wainwrightlaw13_lives.ins : Spec := ⟨71, 0, [], [], .nil⟩
def wainwrightlaw13_lives.outs : List Spec := [⟨71, 0, [], [0], (.cons (.v .bool) .nil)⟩]
noncomputable def wainwrightlaw13_lives.c : Callee' := ⟨34, mkFits wainwrightlaw13_lives.ins wainwrightlaw13_lives.outs, mkFun wainwrightlaw13_lives.ins wainwrightlaw13_lives.outs wainwrightlaw13_lives, mkFun_nat _ _ _⟩
theorem wainwrightlaw13_lives.quiet : FunQuiet wainwrightlaw13_lives.c.F := mkFun_quiet rfl rfl
noncomputable def wainwrightlaw13_lives.ann : Ann :=
  (.seq (.reg []) (.seq (.reg [.call [wainwrightlaw13_begin.c]]) (.seq (.seq (.reg [.std, .obj .bool]) (.cond (.seq (.reg []) .std) .std)) (.seq (.reg [.std, .std, .std, .std, .call [stock_Free.c, stock_Free_1.c]]) (.seq (.reg [.std, .std, .std, .std, .call [stock_Take.c, stock_Take_1.c]]) (.seq (.reg [.std, .std, .std, .std, .call [stock_Run.c, stock_Run_1.c]]) (.seq (.reg [.std, .std, .std, .std, .std, .std, .std, .std, .std, .std, .std, .std, .std, .std, .std, .std, .std, .std, .std, .std, .std, .std, .std, .std, .std, .std, .std, .std, .std, .std, .std, .call [stock_Drop.c, stock_Drop_1.c]]) .std)))))))
noncomputable def wainwrightlaw13_lives.code : Code := match Tryz.f34.body with | some c => c | none => .skip
theorem wainwrightlaw13_lives.eq : absFn tt 71 wainwrightlaw13_lives.ins wainwrightlaw13_lives.outs wainwrightlaw13_lives.code wainwrightlaw13_lives.ann = wainwrightlaw13_lives := by
  funext a
  kernel_rfl
theorem wainwrightlaw13_lives.ok : wainwrightlaw13_lives.ann.ok Tryz.prog 0 71 :=
  ann_ok (by kernel_rfl) (by kernel_rfl) (show ∀ c ∈ ([wainwrightlaw13_begin.c, stock_Free.c, stock_Free_1.c, stock_Take.c, stock_Take_1.c, stock_Run.c, stock_Run_1.c, stock_Drop.c, stock_Drop_1.c] : List Callee'), c.ok Tryz.prog from cs_cons wainwrightlaw13_begin.sound (cs_cons stock_Free.sound (cs_cons stock_Free_1.sound (cs_cons stock_Take.sound (cs_cons stock_Take_1.sound (cs_cons stock_Run.sound (cs_cons stock_Run_1.sound (cs_cons stock_Drop.sound (cs_cons stock_Drop_1.sound cs_nil)))))))))
    (show ∀ c ∈ ([] : List Callee'), FunQuiet c.F from cs_nil)
theorem wainwrightlaw13_lives.sound : wainwrightlaw13_lives.c.ok Tryz.prog := by
  refine ⟨?_, Tryz.f34, wainwrightlaw13_lives.code, Tryz.func34, rfl, by decide⟩
  have h := fn_sound tt_ok mix_ok (x := wainwrightlaw13_lives.ann) (ins := wainwrightlaw13_lives.ins) (outs := wainwrightlaw13_lives.outs) (N := 71) Tryz.func34 (c := wainwrightlaw13_lives.code) rfl rfl (by kernel_rfl) (by kernel_rfl) wainwrightlaw13_lives.ok (by decide)
  rw [wainwrightlaw13_lives.eq] at h
  exact h

/-! ### wainwright/stock.Used: function 44 -/
noncomputable def stock_Used : Int → Option (Bool × Int) := fun block1 =>
  (stock_open ()).bind fun d => match d with
  | .inl r10 =>
    if (r10 != 0) = true then
      some (((false, r10)))
    else none
  | .inr (((r10b, r10_2b, r10_3b, r10_4b), r10_5b)) =>
    if (r10_5b != 0) = true then
      some (((false, r10_5b)))
    else
      (crown_Owned ((r10b, r10_2b, r10_3b), block1)).bind fun r23 =>
        if (!r23) = true then
          some (((false, 1)))
        else
          (marks_Is (r10_4b, block1)).bind fun r30 =>
            some (((r30, 0)))

def stock_Used.ins : Spec := ⟨31, 0, [], [0, 1], (.cons (.nilptr) (.cons (.v I) .nil))⟩
def stock_Used.outs : List Spec := [⟨31, 0, [], [4, 5], (.cons (.v .bool) (.cons (.v I) .nil))⟩]
noncomputable def stock_Used.c : Callee' := ⟨44, mkFits stock_Used.ins stock_Used.outs, mkFun stock_Used.ins stock_Used.outs stock_Used, mkFun_nat _ _ _⟩
theorem stock_Used.quiet : FunQuiet stock_Used.c.F := mkFun_quiet rfl rfl
noncomputable def stock_Used.ann : Ann :=
  (.seq (.reg []) (.seq (.reg [.std, .call [stock_open.c]]) (.seq (.block (.seq (.reg []) (.cond (.seq (.reg []) .std) (.seq (.reg [.std, .std, .std, .std, .std, .callq [crown_Owned.c]]) (.cond (.seq (.reg []) .std) .std))))) (.seq (.reg [.std, .std, .std, .std, .std, .callq [marks_Is.c]]) .std))))
noncomputable def stock_Used.code : Code := match Tryz.f44.body with | some c => c | none => .skip
theorem stock_Used.eq : absFn tt 31 stock_Used.ins stock_Used.outs stock_Used.code stock_Used.ann = stock_Used := by
  funext a
  kernel_rfl
theorem stock_Used.ok : stock_Used.ann.ok Tryz.prog 0 31 :=
  ann_ok (by kernel_rfl) (by kernel_rfl) (show ∀ c ∈ ([stock_open.c, crown_Owned.c, marks_Is.c] : List Callee'), c.ok Tryz.prog from cs_cons stock_open.sound (cs_cons crown_Owned.sound (cs_cons marks_Is.sound cs_nil)))
    (show ∀ c ∈ ([crown_Owned.c, marks_Is.c] : List Callee'), FunQuiet c.F from cs_cons crown_Owned.quiet (cs_cons marks_Is.quiet cs_nil))
theorem stock_Used.sound : stock_Used.c.ok Tryz.prog := by
  refine ⟨?_, Tryz.f44, stock_Used.code, Tryz.func44, rfl, by decide⟩
  have h := fn_sound tt_ok mix_ok (x := stock_Used.ann) (ins := stock_Used.ins) (outs := stock_Used.outs) (N := 31) Tryz.func44 (c := stock_Used.code) rfl rfl (by kernel_rfl) (by kernel_rfl) stock_Used.ok (by decide)
  rw [stock_Used.eq] at h
  exact h

/-! ### (*wainwright/deal.Deal).Changed: function 47 -/
noncomputable def deal_Deal_Changed : Unit → Option (List Int) := fun _ =>
  some ((([] : List Int)))

def deal_Deal_Changed.ins : Spec := ⟨24, 0, [], [0], (.cons (.nilptr) .nil)⟩
def deal_Deal_Changed.outs : List Spec := [⟨24, 0, [], [2], (.cons (.v (.sl I)) .nil)⟩]
noncomputable def deal_Deal_Changed.c : Callee' := ⟨47, mkFits deal_Deal_Changed.ins deal_Deal_Changed.outs, mkFun deal_Deal_Changed.ins deal_Deal_Changed.outs deal_Deal_Changed, mkFun_nat _ _ _⟩
theorem deal_Deal_Changed.quiet : FunQuiet deal_Deal_Changed.c.F := mkFun_quiet rfl rfl
noncomputable def deal_Deal_Changed.ann : Ann :=
  (.seq (.reg []) (.seq (.seq (.reg [.std, .obj .bool]) (.cond (.seq (.reg []) .std) .std)) (.seq (.reg []) (.seq (.seq (.reg []) (.block .std)) (.seq (.reg []) .std)))))
noncomputable def deal_Deal_Changed.code : Code := match Tryz.f47.body with | some c => c | none => .skip
theorem deal_Deal_Changed.eq : absFn tt 24 deal_Deal_Changed.ins deal_Deal_Changed.outs deal_Deal_Changed.code deal_Deal_Changed.ann = deal_Deal_Changed := by
  funext a
  kernel_rfl
theorem deal_Deal_Changed.ok : deal_Deal_Changed.ann.ok Tryz.prog 0 24 :=
  ann_ok (by kernel_rfl) (by kernel_rfl) (show ∀ c ∈ ([] : List Callee'), c.ok Tryz.prog from cs_nil)
    (show ∀ c ∈ ([] : List Callee'), FunQuiet c.F from cs_nil)
theorem deal_Deal_Changed.sound : deal_Deal_Changed.c.ok Tryz.prog := by
  refine ⟨?_, Tryz.f47, deal_Deal_Changed.code, Tryz.func47, rfl, by decide⟩
  have h := fn_sound tt_ok mix_ok (x := deal_Deal_Changed.ann) (ins := deal_Deal_Changed.ins) (outs := deal_Deal_Changed.outs) (N := 24) Tryz.func47 (c := deal_Deal_Changed.code) rfl rfl (by kernel_rfl) (by kernel_rfl) deal_Deal_Changed.ok (by decide)
  rw [deal_Deal_Changed.eq] at h
  exact h

/-! ### wainwright/stock.Used: function 44 -/
noncomputable def stock_Used_1 : (((Bool × Int) × (List (Int × List UInt8)) × (Int × Int) × List (List UInt8) × List (Int × List UInt8)) × Int) → Option (((Bool × Int) × (List (Int × List UInt8)) × (Int × Int) × List (List UInt8) × List (Int × List UInt8)) × Bool × Int) := fun (((o1b, o1c), o2, (o3c, o3d), o4, o5), block1) =>
  (stock_open_1 ((o1b, o1c), o2, (o3c, o3d), o4, o5)).bind fun d => match d with
  | .inl (((r10, r10_2), r10_3, (r10_4, r10_5), r10_6, r10_7), r10_8) =>
    if (r10_8 != 0) = true then
      some (((((r10, r10_2), r10_3, (r10_4, r10_5), r10_6, r10_7), false, r10_8)))
    else none
  | .inr ((((r10b, r10_2b), r10_3b, (r10_4b, r10_5b), r10_6b, r10_7b, r10_8b, r10_9b, r10_10b, r10_11b), r10_12b)) =>
    if (r10_12b != 0) = true then
      some (((((r10b, r10_2b), r10_3b, (r10_4b, r10_5b), r10_6b, r10_7b), false, r10_12b)))
    else
      (crown_Owned ((r10_8b, r10_9b, r10_10b), block1)).bind fun r23 =>
        if (!r23) = true then
          some (((((r10b, r10_2b), r10_3b, (r10_4b, r10_5b), r10_6b, r10_7b), false, 1)))
        else
          (marks_Is (r10_11b, block1)).bind fun r30 =>
            some (((((r10b, r10_2b), r10_3b, (r10_4b, r10_5b), r10_6b, r10_7b), r30, 0)))

def stock_Used_1.ins : Spec := ⟨31, 0, [.box (.cons (.ref 1) (.cons (.ref 2) .nil)), .box (.cons (.ref 3) (.cons (.v .bool) (.cons (.v I) .nil))), .map I .str, .box (.cons (.ref 4) (.cons (.ref 5) (.cons (.v I) (.cons (.v I) .nil)))), .arr .str, .map I .str], [0, 1], (.cons (.ref 0) (.cons (.v I) .nil))⟩
def stock_Used_1.outs : List Spec := [⟨31, 6, [.box (.cons (.ref 1) (.cons (.ref 2) .nil)), .box (.cons (.ref 3) (.cons (.v .bool) (.cons (.v I) .nil))), .map I .str, .box (.cons (.ref 4) (.cons (.ref 5) (.cons (.v I) (.cons (.v I) .nil)))), .arr .str, .map I .str], [4, 5], (.cons (.v .bool) (.cons (.v I) .nil))⟩]
noncomputable def stock_Used_1.c : Callee' := ⟨44, mkFits stock_Used_1.ins stock_Used_1.outs, mkFun stock_Used_1.ins stock_Used_1.outs stock_Used_1, mkFun_nat _ _ _⟩
noncomputable def stock_Used_1.ann : Ann :=
  (.seq (.reg []) (.seq (.reg [.std, .call [stock_open_1.c]]) (.seq (.block (.seq (.reg []) (.cond (.seq (.reg []) .std) (.seq (.reg [.std, .std, .std, .std, .std, .callq [crown_Owned.c]]) (.cond (.seq (.reg []) .std) .std))))) (.seq (.reg [.std, .std, .std, .std, .std, .callq [marks_Is.c]]) .std))))
noncomputable def stock_Used_1.code : Code := match Tryz.f44.body with | some c => c | none => .skip
theorem stock_Used_1.eq : absFn tt 31 stock_Used_1.ins stock_Used_1.outs stock_Used_1.code stock_Used_1.ann = stock_Used_1 := by
  funext a
  kernel_rfl
theorem stock_Used_1.ok : stock_Used_1.ann.ok Tryz.prog 6 31 :=
  ann_ok (by kernel_rfl) (by kernel_rfl) (show ∀ c ∈ ([stock_open_1.c, crown_Owned.c, marks_Is.c] : List Callee'), c.ok Tryz.prog from cs_cons stock_open_1.sound (cs_cons crown_Owned.sound (cs_cons marks_Is.sound cs_nil)))
    (show ∀ c ∈ ([crown_Owned.c, marks_Is.c] : List Callee'), FunQuiet c.F from cs_cons crown_Owned.quiet (cs_cons marks_Is.quiet cs_nil))
theorem stock_Used_1.sound : stock_Used_1.c.ok Tryz.prog := by
  refine ⟨?_, Tryz.f44, stock_Used_1.code, Tryz.func44, rfl, by decide⟩
  have h := fn_sound tt_ok mix_ok (x := stock_Used_1.ann) (ins := stock_Used_1.ins) (outs := stock_Used_1.outs) (N := 31) Tryz.func44 (c := stock_Used_1.code) rfl rfl (by kernel_rfl) (by kernel_rfl) stock_Used_1.ok (by decide)
  rw [stock_Used_1.eq] at h
  exact h

/-! ### (*wainwright/deal.written).changes: function 102 -/
noncomputable def deal_written_changes.l1 : (((Bool × Int) × (List (Int × List UInt8)) × (Int × Int) × List (List UInt8) × (List (Int × List UInt8)) × List (Int × List UInt8)) × List Int × Int × Int) → Option ((((Bool × Int) × (List (Int × List UInt8)) × (Int × Int) × List (List UInt8) × (List (Int × List UInt8)) × List (Int × List UInt8)) × List Int × Int × Int) ⊕ ((Bool × Int) × (List (Int × List UInt8)) × (Int × Int) × List (List UInt8) × (List (Int × List UInt8)) × List (Int × List UInt8))) := fun (((o1b, o1c), o2, (o3c, o3d), o4, o5, c3), t12, t13, t14) =>
  if decide (t14 < t13) = true then
    if 0 ≤ t14 ∧ t14 < (t12.length : Int) then
      (log_Log_Read (((o4, o5, o3c, o3d), o1b, o1c), t12.getD t14.toNat 0)).bind fun r30 =>
        if (!((((mget (K := I) (V := .str) o2 (t12.getD t14.toNat 0)).getD [])) == r30)) = true then
          if roomOk (c3.length + (([(t12.getD t14.toNat 0, ((mget (K := I) (V := .str) o2 (t12.getD t14.toNat 0)).getD []))] : List (Int × List UInt8))).length) 24 then
            some (.inl ((((o1b, o1c), o2, (o3c, o3d), o4, o5, c3 ++ (([(t12.getD t14.toNat 0, ((mget (K := I) (V := .str) o2 (t12.getD t14.toNat 0)).getD []))] : List (Int × List UInt8)))), t12, t13, IntKind.i64.wrap (t14 + 1))))
          else none
        else
          some (.inl ((((o1b, o1c), o2, (o3c, o3d), o4, o5, c3), t12, t13, IntKind.i64.wrap (t14 + 1))))
    else none
  else
    some (.inr ((((o1b, o1c), o2, (o3c, o3d), o4, o5, c3))))

noncomputable def deal_written_changes : ((Bool × Int) × (List (Int × List UInt8)) × (Int × Int) × List (List UInt8) × List (Int × List UInt8)) → Option (((Bool × Int) × (List (Int × List UInt8)) × (Int × Int) × List (List UInt8) × List (Int × List UInt8)) × List (Int × List UInt8)) := fun ((o1b, o1c), o2, (o3c, o3d), o4, o5) =>
  (maps_Keys_map_int_string_int_string o2).bind fun r11 =>
    (slices_Sorted r11).bind fun (r12, r12_2) =>
      (loopO deal_written_changes.l1 ((((o1b, o1c), r12, (o3c, o3d), o4, o5, []), r12_2, (r12_2.length : Int), 0))).bind fun ((o1b, o1c), o2, (o3c, o3d), o4, o5, c3) =>
        some (((((o1b, o1c), o2, (o3c, o3d), o4, o5), c3)))

def deal_written_changes.ins : Spec := ⟨40, 0, [.box (.cons (.ref 1) (.cons (.ref 2) .nil)), .box (.cons (.ref 3) (.cons (.v .bool) (.cons (.v I) .nil))), .map I .str, .box (.cons (.ref 4) (.cons (.ref 5) (.cons (.v I) (.cons (.v I) .nil)))), .arr .str, .map I .str], [0], (.cons (.ref 0) .nil)⟩
def deal_written_changes.outs : List Spec := [⟨40, 6, [.box (.cons (.ref 1) (.cons (.ref 2) .nil)), .box (.cons (.ref 3) (.cons (.v .bool) (.cons (.v I) .nil))), .map I .str, .box (.cons (.ref 4) (.cons (.ref 5) (.cons (.v I) (.cons (.v I) .nil)))), .arr .str, .map I .str], [2], (.cons (.v (.sl (.st (.pair I .str)))) .nil)⟩]
noncomputable def deal_written_changes.c : Callee' := ⟨102, mkFits deal_written_changes.ins deal_written_changes.outs, mkFun deal_written_changes.ins deal_written_changes.outs deal_written_changes, mkFun_nat _ _ _⟩
noncomputable def deal_written_changes.ann : Ann :=
  (.seq (.reg []) (.seq (.reg []) (.seq (.seq (.reg [.std, .std, .std, .std, .call [maps_Keys_map_int_string_int_string.c], .call [slices_Sorted.c]]) (.block (.loop ⟨40, 6, [.box (.cons (.ref 1) (.cons (.ref 2) .nil)), .box (.cons (.ref 3) (.cons (.v .bool) (.cons (.v I) .nil))), .map I .str, .box (.cons (.ref 4) (.cons (.ref 5) (.cons (.v I) (.cons (.v I) .nil)))), .arr .str, .map I .str, .arr (.st (.pair I .str))], [0, 3, 12, 13, 14], (.cons (.ref 0) (.cons (.ref 6) (.cons (.v (.sl I)) (.cons (.v I) (.cons (.v I) .nil)))))⟩ [(.exit 0, ⟨40, 6, [.box (.cons (.ref 1) (.cons (.ref 2) .nil)), .box (.cons (.ref 3) (.cons (.v .bool) (.cons (.v I) .nil))), .map I .str, .box (.cons (.ref 4) (.cons (.ref 5) (.cons (.v I) (.cons (.v I) .nil)))), .arr .str, .map I .str, .arr (.st (.pair I .str))], [3], (.cons (.ref 6) .nil)⟩)]
  (.seq (.reg []) (.seq (.cond .std .std) (.seq (.block (.seq (.reg []) (.seq (.reg []) (.seq (.reg [.std, .std, .std, .std, .std, .std, .callq [log_Log_Read.c]]) (.cond (.reg [.std, .std, .std, .std, .inl (.st (.pair I .str)), .obj (.st (.pair I .str))]) .std))))) (.reg []))))))) (.seq (.reg []) .std))))
noncomputable def deal_written_changes.code : Code := match Tryz.f102.body with | some c => c | none => .skip
theorem deal_written_changes.eq : absFn tt 40 deal_written_changes.ins deal_written_changes.outs deal_written_changes.code deal_written_changes.ann = deal_written_changes := by
  funext a
  kernel_rfl
theorem deal_written_changes.ok : deal_written_changes.ann.ok Tryz.prog 6 40 :=
  ann_ok (by kernel_rfl) (by kernel_rfl) (show ∀ c ∈ ([maps_Keys_map_int_string_int_string.c, slices_Sorted.c, log_Log_Read.c] : List Callee'), c.ok Tryz.prog from cs_cons maps_Keys_map_int_string_int_string.sound (cs_cons slices_Sorted.sound (cs_cons log_Log_Read.sound cs_nil)))
    (show ∀ c ∈ ([log_Log_Read.c] : List Callee'), FunQuiet c.F from cs_cons log_Log_Read.quiet cs_nil)
theorem deal_written_changes.sound : deal_written_changes.c.ok Tryz.prog := by
  refine ⟨?_, Tryz.f102, deal_written_changes.code, Tryz.func102, rfl, by decide⟩
  have h := fn_sound tt_ok mix_ok (x := deal_written_changes.ann) (ins := deal_written_changes.ins) (outs := deal_written_changes.outs) (N := 40) Tryz.func102 (c := deal_written_changes.code) rfl rfl (by kernel_rfl) (by kernel_rfl) deal_written_changes.ok (by decide)
  rw [deal_written_changes.eq] at h
  exact h

/-! ### (*wainwright/deal.Deal).Changed: function 47 -/
noncomputable def deal_Deal_Changed_1.l1 : (((Bool × Int) × (List (Int × List UInt8)) × (Int × Int) × List (List UInt8) × (List (Int × List UInt8)) × List Int) × (List (Int × List UInt8)) × Int × Int) → Option ((((Bool × Int) × (List (Int × List UInt8)) × (Int × Int) × List (List UInt8) × (List (Int × List UInt8)) × List Int) × (List (Int × List UInt8)) × Int × Int) ⊕ ((Bool × Int) × (List (Int × List UInt8)) × (Int × Int) × List (List UInt8) × (List (Int × List UInt8)) × List Int)) := fun (((o1b, o1c), o2, (o3c, o3d), o4, o5, l3), t11, t12, t13) =>
  if decide (t13 < t12) = true then
    if 0 ≤ t13 ∧ t13 < (t11.length : Int) then
      if roomOk (l3.length + (([(t11.getD t13.toNat (0, [])).1] : List Int)).length) 8 then
        some (.inl ((((o1b, o1c), o2, (o3c, o3d), o4, o5, l3 ++ (([(t11.getD t13.toNat (0, [])).1] : List Int))), t11, t12, IntKind.i64.wrap (t13 + 1))))
      else none
    else none
  else
    some (.inr ((((o1b, o1c), o2, (o3c, o3d), o4, o5, l3))))

noncomputable def deal_Deal_Changed_1 : ((Bool × Int) × (List (Int × List UInt8)) × (Int × Int) × List (List UInt8) × List (Int × List UInt8)) → Option (((Bool × Int) × (List (Int × List UInt8)) × (Int × Int) × List (List UInt8) × List (Int × List UInt8)) × List Int) := fun ((o1b, o1c), o2, (o3c, o3d), o4, o5) =>
  (deal_written_changes ((o1b, o1c), o2, (o3c, o3d), o4, o5)).bind fun (((r11, r11_2), r11_3, (r11_4, r11_5), r11_6, r11_7), r11_8) =>
    (loopO deal_Deal_Changed_1.l1 ((((r11, r11_2), r11_3, (r11_4, r11_5), r11_6, r11_7, []), r11_8, (r11_8.length : Int), 0))).bind fun ((o1b, o1c), o2, (o3c, o3d), o4, o5, l3) =>
      some (((((o1b, o1c), o2, (o3c, o3d), o4, o5), l3)))

def deal_Deal_Changed_1.ins : Spec := ⟨24, 0, [.box (.cons (.ref 1) (.cons (.ref 2) .nil)), .box (.cons (.ref 3) (.cons (.v .bool) (.cons (.v I) .nil))), .map I .str, .box (.cons (.ref 4) (.cons (.ref 5) (.cons (.v I) (.cons (.v I) .nil)))), .arr .str, .map I .str], [0], (.cons (.ref 0) .nil)⟩
def deal_Deal_Changed_1.outs : List Spec := [⟨24, 6, [.box (.cons (.ref 1) (.cons (.ref 2) .nil)), .box (.cons (.ref 3) (.cons (.v .bool) (.cons (.v I) .nil))), .map I .str, .box (.cons (.ref 4) (.cons (.ref 5) (.cons (.v I) (.cons (.v I) .nil)))), .arr .str, .map I .str], [2], (.cons (.v (.sl I)) .nil)⟩]
noncomputable def deal_Deal_Changed_1.c : Callee' := ⟨47, mkFits deal_Deal_Changed_1.ins deal_Deal_Changed_1.outs, mkFun deal_Deal_Changed_1.ins deal_Deal_Changed_1.outs deal_Deal_Changed_1, mkFun_nat _ _ _⟩
noncomputable def deal_Deal_Changed_1.ann : Ann :=
  (.seq (.reg []) (.seq (.seq (.reg [.std, .obj .bool]) (.cond (.seq (.reg []) .std) .std)) (.seq (.reg []) (.seq (.seq (.reg [.std, .std, .std, .call [deal_written_changes.c]]) (.block (.loop ⟨24, 6, [.box (.cons (.ref 1) (.cons (.ref 2) .nil)), .box (.cons (.ref 3) (.cons (.v .bool) (.cons (.v I) .nil))), .map I .str, .box (.cons (.ref 4) (.cons (.ref 5) (.cons (.v I) (.cons (.v I) .nil)))), .arr .str, .map I .str, .arr I], [3, 11, 12, 13], (.cons (.ref 6) (.cons (.v (.sl (.st (.pair I .str)))) (.cons (.v I) (.cons (.v I) .nil))))⟩ [(.exit 0, ⟨24, 6, [.box (.cons (.ref 1) (.cons (.ref 2) .nil)), .box (.cons (.ref 3) (.cons (.v .bool) (.cons (.v I) .nil))), .map I .str, .box (.cons (.ref 4) (.cons (.ref 5) (.cons (.v I) (.cons (.v I) .nil)))), .arr .str, .map I .str, .arr I], [3], (.cons (.ref 6) .nil)⟩)]
  (.seq (.reg []) (.seq (.cond .std .std) (.seq (.block (.seq (.reg []) (.reg [.std, .std, .std, .inl I, .obj I]))) (.reg []))))))) (.seq (.reg []) .std)))))
noncomputable def deal_Deal_Changed_1.code : Code := match Tryz.f47.body with | some c => c | none => .skip
theorem deal_Deal_Changed_1.eq : absFn tt 24 deal_Deal_Changed_1.ins deal_Deal_Changed_1.outs deal_Deal_Changed_1.code deal_Deal_Changed_1.ann = deal_Deal_Changed_1 := by
  funext a
  kernel_rfl
theorem deal_Deal_Changed_1.ok : deal_Deal_Changed_1.ann.ok Tryz.prog 6 24 :=
  ann_ok (by kernel_rfl) (by kernel_rfl) (show ∀ c ∈ ([deal_written_changes.c] : List Callee'), c.ok Tryz.prog from cs_cons deal_written_changes.sound cs_nil)
    (show ∀ c ∈ ([] : List Callee'), FunQuiet c.F from cs_nil)
theorem deal_Deal_Changed_1.sound : deal_Deal_Changed_1.c.ok Tryz.prog := by
  refine ⟨?_, Tryz.f47, deal_Deal_Changed_1.code, Tryz.func47, rfl, by decide⟩
  have h := fn_sound tt_ok mix_ok (x := deal_Deal_Changed_1.ann) (ins := deal_Deal_Changed_1.ins) (outs := deal_Deal_Changed_1.outs) (N := 24) Tryz.func47 (c := deal_Deal_Changed_1.code) rfl rfl (by kernel_rfl) (by kernel_rfl) deal_Deal_Changed_1.ok (by decide)
  rw [deal_Deal_Changed_1.eq] at h
  exact h

/-! ### wainwright/wainwrightlaw13.StockNone: function 10 -/
noncomputable def wainwrightlaw13_StockNone : (Int × Int) → Option (Bool) := fun ov0 =>
  (wainwrightlaw13_lives ()).bind fun r18 =>
    if (!r18) = true then
      some false
    else
      (slab_New 64).bind fun ((r21, r21_2), r21_3, r21_4) =>
        (log_Open ((r21, r21_2), r21_3, r21_4)).bind fun d => match d with
        | .inl (((r22, r22_2), r22_3, r22_4), r22_5) =>
          (deal_Begin ()).bind fun r27 =>
            (stock_Take ()).bind fun (r32, r32_2) =>
              (stock_Run ov0.2).bind fun (r39, r39_2, r39_3) =>
                (stock_Free ()).bind fun (r45, r45_2) =>
                  (stock_Used ov0.2).bind fun (r52, r52_2) =>
                    (stock_Take ()).bind fun (r56, r56_2) =>
                      if (r22_5 == 0) = true then
                        if (r27 == 0) = true then
                          if (r32_2 == 15) = true then
                            if (r39_3 == 15) = true then
                              if (r45_2 == 15) = true then
                                if (r52_2 == 15) = true then
                                  (stock_Drop ov0.2).bind fun r85 =>
                                    if (r85 == 15) = true then
                                      (deal_Deal_Changed ()).bind fun r90 =>
                                        if ((r90.length : Int) == 0) = true then
                                          some (((r56_2 == 1)))
                                        else
                                          some false
                                    else
                                      some false
                                else
                                  some false
                              else
                                some false
                            else
                              some false
                          else
                            some false
                        else
                          some false
                      else
                        some false
        | .inr ((((r22b, r22_2b), r22_3b, r22_4b, r22_5b, r22_6b), r22_7b)) =>
          (deal_Begin_2 ((r22_5b, r22_6b), (r22b, r22_2b), r22_3b, r22_4b)).bind fun (((r27a, r27a_2), (r27a_3, r27a_4), r27a_5, r27a_6, r27a_7), r27a_8) =>
            (stock_Take_1 ((r27a, r27a_2), r27a_7, (r27a_3, r27a_4), r27a_5, r27a_6)).bind fun (((r32a, r32a_2), r32a_3, (r32a_4, r32a_5), r32a_6, r32a_7), r32a_8, r32a_9) =>
              (stock_Run_1 (((r32a, r32a_2), r32a_3, (r32a_4, r32a_5), r32a_6, r32a_7), ov0.2)).bind fun (((r39a, r39a_2), r39a_3, (r39a_4, r39a_5), r39a_6, r39a_7), r39a_8, r39a_9, r39a_10) =>
                (stock_Free_1 ((r39a, r39a_2), r39a_3, (r39a_4, r39a_5), r39a_6, r39a_7)).bind fun (((r45a, r45a_2), r45a_3, (r45a_4, r45a_5), r45a_6, r45a_7), r45a_8, r45a_9) =>
                  (stock_Used_1 (((r45a, r45a_2), r45a_3, (r45a_4, r45a_5), r45a_6, r45a_7), ov0.2)).bind fun (((r52a, r52a_2), r52a_3, (r52a_4, r52a_5), r52a_6, r52a_7), r52a_8, r52a_9) =>
                    (stock_Take ()).bind fun (r56a, r56a_2) =>
                      if (r22_7b == 0) = true then
                        if (r27a_8 == 0) = true then
                          if (r32a_9 == 15) = true then
                            if (r39a_10 == 15) = true then
                              if (r45a_9 == 15) = true then
                                if (r52a_9 == 15) = true then
                                  (stock_Drop_1 (((r52a, r52a_2), r52a_3, (r52a_4, r52a_5), r52a_6, r52a_7), ov0.2)).bind fun (((r85a, r85a_2), r85a_3, (r85a_4, r85a_5), r85a_6, r85a_7), r85a_8) =>
                                    if (r85a_8 == 15) = true then
                                      (deal_Deal_Changed_1 ((r85a, r85a_2), r85a_3, (r85a_4, r85a_5), r85a_6, r85a_7)).bind fun (((r90a, r90a_2), r90a_3, (r90a_4, r90a_5), r90a_6, r90a_7), r90a_8) =>
                                        if ((r90a_8.length : Int) == 0) = true then
                                          some (((r56a_2 == 1)))
                                        else
                                          some false
                                    else
                                      some false
                                else
                                  some false
                              else
                                some false
                            else
                              some false
                          else
                            some false
                        else
                          some false
                      else
                        some false

def wainwrightlaw13_StockNone.ins : Spec := ⟨98, 0, [], [0], (.cons (.v (.st (.pair I I))) .nil)⟩
def wainwrightlaw13_StockNone.outs : List Spec := [⟨98, 0, [], [2], (.cons (.v .bool) .nil)⟩]
noncomputable def wainwrightlaw13_StockNone.c : Callee' := ⟨10, mkFits wainwrightlaw13_StockNone.ins wainwrightlaw13_StockNone.outs, mkFun wainwrightlaw13_StockNone.ins wainwrightlaw13_StockNone.outs wainwrightlaw13_StockNone, mkFun_nat _ _ _⟩
theorem wainwrightlaw13_StockNone.quiet : FunQuiet wainwrightlaw13_StockNone.c.F := mkFun_quiet rfl rfl
noncomputable def wainwrightlaw13_StockNone.ann : Ann :=
  (.seq (.reg []) (.seq (.seq (.reg [.callq [wainwrightlaw13_lives.c]]) (.cond (.seq (.reg []) .std) .std)) (.seq (.reg [.call [slab_New.c], .call [log_Open.c]]) (.seq (.reg [.std, .call [deal_Begin.c, deal_Begin_2.c]]) (.seq (.reg [.std, .call [stock_Take.c, stock_Take_1.c]]) (.seq (.reg [.std, .std, .std, .call [stock_Run.c, stock_Run_1.c]]) (.seq (.reg [.std, .call [stock_Free.c, stock_Free_1.c]]) (.seq (.reg [.std, .std, .std, .call [stock_Used.c, stock_Used_1.c]]) (.seq (.reg [.callq [stock_Take.c]]) (.seq (.reg [.std, .std, .std, .std, .std, .std, .std, .std, .std, .std, .std, .std, .std, .std, .std, .std, .std, .std, .std, .std, .std, .std, .std, .std, .std, .std, .call [stock_Drop.c, stock_Drop_1.c], .std, .std, .std, .std, .call [deal_Deal_Changed.c, deal_Deal_Changed_1.c]]) .std))))))))))
noncomputable def wainwrightlaw13_StockNone.code : Code := match Tryz.f10.body with | some c => c | none => .skip
theorem wainwrightlaw13_StockNone.eq : absFn tt 98 wainwrightlaw13_StockNone.ins wainwrightlaw13_StockNone.outs wainwrightlaw13_StockNone.code wainwrightlaw13_StockNone.ann = wainwrightlaw13_StockNone := by
  funext a
  kernel_rfl
theorem wainwrightlaw13_StockNone.ok : wainwrightlaw13_StockNone.ann.ok Tryz.prog 0 98 :=
  ann_ok (by kernel_rfl) (by kernel_rfl) (show ∀ c ∈ ([wainwrightlaw13_lives.c, slab_New.c, log_Open.c, deal_Begin.c, deal_Begin_2.c, stock_Take.c, stock_Take_1.c, stock_Run.c, stock_Run_1.c, stock_Free.c, stock_Free_1.c, stock_Used.c, stock_Used_1.c, stock_Take.c, stock_Drop.c, stock_Drop_1.c, deal_Deal_Changed.c, deal_Deal_Changed_1.c] : List Callee'), c.ok Tryz.prog from cs_cons wainwrightlaw13_lives.sound (cs_cons slab_New.sound (cs_cons log_Open.sound (cs_cons deal_Begin.sound (cs_cons deal_Begin_2.sound (cs_cons stock_Take.sound (cs_cons stock_Take_1.sound (cs_cons stock_Run.sound (cs_cons stock_Run_1.sound (cs_cons stock_Free.sound (cs_cons stock_Free_1.sound (cs_cons stock_Used.sound (cs_cons stock_Used_1.sound (cs_cons stock_Take.sound (cs_cons stock_Drop.sound (cs_cons stock_Drop_1.sound (cs_cons deal_Deal_Changed.sound (cs_cons deal_Deal_Changed_1.sound cs_nil))))))))))))))))))
    (show ∀ c ∈ ([wainwrightlaw13_lives.c, stock_Take.c] : List Callee'), FunQuiet c.F from cs_cons wainwrightlaw13_lives.quiet (cs_cons stock_Take.quiet cs_nil))
theorem wainwrightlaw13_StockNone.sound : wainwrightlaw13_StockNone.c.ok Tryz.prog := by
  refine ⟨?_, Tryz.f10, wainwrightlaw13_StockNone.code, Tryz.func10, rfl, by decide⟩
  have h := fn_sound tt_ok mix_ok (x := wainwrightlaw13_StockNone.ann) (ins := wainwrightlaw13_StockNone.ins) (outs := wainwrightlaw13_StockNone.outs) (N := 98) Tryz.func10 (c := wainwrightlaw13_StockNone.code) rfl rfl (by kernel_rfl) (by kernel_rfl) wainwrightlaw13_StockNone.ok (by decide)
  rw [wainwrightlaw13_StockNone.eq] at h
  exact h

/-! ### wainwright/wainwrightlaw13.size: function 35 -/
noncomputable def wainwrightlaw13_size : Int → Option (Int) := fun n0 =>
  some ((IntKind.i64.wrap (64 + (IntKind.i64.wrap (Int.tmod (IntKind.u64.wrap (n0)) 337)))))

def wainwrightlaw13_size.ins : Spec := ⟨8, 0, [], [0], (.cons (.v I) .nil)⟩
def wainwrightlaw13_size.outs : List Spec := [⟨8, 0, [], [2], (.cons (.v I) .nil)⟩]
noncomputable def wainwrightlaw13_size.c : Callee' := ⟨35, mkFits wainwrightlaw13_size.ins wainwrightlaw13_size.outs, mkFun wainwrightlaw13_size.ins wainwrightlaw13_size.outs wainwrightlaw13_size, mkFun_nat _ _ _⟩
theorem wainwrightlaw13_size.quiet : FunQuiet wainwrightlaw13_size.c.F := mkFun_quiet rfl rfl
noncomputable def wainwrightlaw13_size.ann : Ann :=
  (.seq (.reg []) (.seq (.reg []) .std))
noncomputable def wainwrightlaw13_size.code : Code := match Tryz.f35.body with | some c => c | none => .skip
theorem wainwrightlaw13_size.eq : absFn tt 8 wainwrightlaw13_size.ins wainwrightlaw13_size.outs wainwrightlaw13_size.code wainwrightlaw13_size.ann = wainwrightlaw13_size := by
  funext a
  kernel_rfl
theorem wainwrightlaw13_size.ok : wainwrightlaw13_size.ann.ok Tryz.prog 0 8 :=
  ann_ok (by kernel_rfl) (by kernel_rfl) (show ∀ c ∈ ([] : List Callee'), c.ok Tryz.prog from cs_nil)
    (show ∀ c ∈ ([] : List Callee'), FunQuiet c.F from cs_nil)
theorem wainwrightlaw13_size.sound : wainwrightlaw13_size.c.ok Tryz.prog := by
  refine ⟨?_, Tryz.f35, wainwrightlaw13_size.code, Tryz.func35, rfl, by decide⟩
  have h := fn_sound tt_ok mix_ok (x := wainwrightlaw13_size.ann) (ins := wainwrightlaw13_size.ins) (outs := wainwrightlaw13_size.outs) (N := 8) Tryz.func35 (c := wainwrightlaw13_size.code) rfl rfl (by kernel_rfl) (by kernel_rfl) wainwrightlaw13_size.ok (by decide)
  rw [wainwrightlaw13_size.eq] at h
  exact h

/-! ### wainwright/wainwrightlaw13.early: function 37 -/
noncomputable def wainwrightlaw13_early : (List (Int × Int)) → Option (List (Int × Int)) := fun l0 =>
  if 0 ≤ (if 60 < (l0.length : Int) then 60 else (l0.length : Int)) ∧ (if 60 < (l0.length : Int) then 60 else (l0.length : Int)) ≤ (l0.length : Int) then
    some ((l0.take ((if 60 < (l0.length : Int) then 60 else (l0.length : Int))).toNat))
  else none

def wainwrightlaw13_early.ins : Spec := ⟨8, 0, [], [0], (.cons (.v (.sl (.st (.pair I I)))) .nil)⟩
def wainwrightlaw13_early.outs : List Spec := [⟨8, 0, [], [2], (.cons (.v (.sl (.st (.pair I I)))) .nil)⟩]
noncomputable def wainwrightlaw13_early.c : Callee' := ⟨37, mkFits wainwrightlaw13_early.ins wainwrightlaw13_early.outs, mkFun wainwrightlaw13_early.ins wainwrightlaw13_early.outs wainwrightlaw13_early, mkFun_nat _ _ _⟩
theorem wainwrightlaw13_early.quiet : FunQuiet wainwrightlaw13_early.c.F := mkFun_quiet rfl rfl
noncomputable def wainwrightlaw13_early.ann : Ann :=
  (.seq (.reg []) (.seq (.reg []) .std))
noncomputable def wainwrightlaw13_early.code : Code := match Tryz.f37.body with | some c => c | none => .skip
theorem wainwrightlaw13_early.eq : absFn tt 8 wainwrightlaw13_early.ins wainwrightlaw13_early.outs wainwrightlaw13_early.code wainwrightlaw13_early.ann = wainwrightlaw13_early := by
  funext a
  kernel_rfl
theorem wainwrightlaw13_early.ok : wainwrightlaw13_early.ann.ok Tryz.prog 0 8 :=
  ann_ok (by kernel_rfl) (by kernel_rfl) (show ∀ c ∈ ([] : List Callee'), c.ok Tryz.prog from cs_nil)
    (show ∀ c ∈ ([] : List Callee'), FunQuiet c.F from cs_nil)
theorem wainwrightlaw13_early.sound : wainwrightlaw13_early.c.ok Tryz.prog := by
  refine ⟨?_, Tryz.f37, wainwrightlaw13_early.code, Tryz.func37, rfl, by decide⟩
  have h := fn_sound tt_ok mix_ok (x := wainwrightlaw13_early.ann) (ins := wainwrightlaw13_early.ins) (outs := wainwrightlaw13_early.outs) (N := 8) Tryz.func37 (c := wainwrightlaw13_early.code) rfl rfl (by kernel_rfl) (by kernel_rfl) wainwrightlaw13_early.ok (by decide)
  rw [wainwrightlaw13_early.eq] at h
  exact h

/-! ### (wainwright/wainwrightlaw13.Op).kind: function 38 -/
noncomputable def wainwrightlaw13_Op_kind : (Int × Int) → Option (Int) := fun ov0 =>
  some ((IntKind.i64.wrap (Int.tmod (IntKind.u64.wrap (ov0.1)) 4)))

def wainwrightlaw13_Op_kind.ins : Spec := ⟨8, 0, [], [0], (.cons (.v (.st (.pair I I))) .nil)⟩
def wainwrightlaw13_Op_kind.outs : List Spec := [⟨8, 0, [], [2], (.cons (.v I) .nil)⟩]
noncomputable def wainwrightlaw13_Op_kind.c : Callee' := ⟨38, mkFits wainwrightlaw13_Op_kind.ins wainwrightlaw13_Op_kind.outs, mkFun wainwrightlaw13_Op_kind.ins wainwrightlaw13_Op_kind.outs wainwrightlaw13_Op_kind, mkFun_nat _ _ _⟩
theorem wainwrightlaw13_Op_kind.quiet : FunQuiet wainwrightlaw13_Op_kind.c.F := mkFun_quiet rfl rfl
noncomputable def wainwrightlaw13_Op_kind.ann : Ann :=
  (.seq (.reg []) (.seq (.reg []) .std))
noncomputable def wainwrightlaw13_Op_kind.code : Code := match Tryz.f38.body with | some c => c | none => .skip
theorem wainwrightlaw13_Op_kind.eq : absFn tt 8 wainwrightlaw13_Op_kind.ins wainwrightlaw13_Op_kind.outs wainwrightlaw13_Op_kind.code wainwrightlaw13_Op_kind.ann = wainwrightlaw13_Op_kind := by
  funext a
  kernel_rfl
theorem wainwrightlaw13_Op_kind.ok : wainwrightlaw13_Op_kind.ann.ok Tryz.prog 0 8 :=
  ann_ok (by kernel_rfl) (by kernel_rfl) (show ∀ c ∈ ([] : List Callee'), c.ok Tryz.prog from cs_nil)
    (show ∀ c ∈ ([] : List Callee'), FunQuiet c.F from cs_nil)
theorem wainwrightlaw13_Op_kind.sound : wainwrightlaw13_Op_kind.c.ok Tryz.prog := by
  refine ⟨?_, Tryz.f38, wainwrightlaw13_Op_kind.code, Tryz.func38, rfl, by decide⟩
  have h := fn_sound tt_ok mix_ok (x := wainwrightlaw13_Op_kind.ann) (ins := wainwrightlaw13_Op_kind.ins) (outs := wainwrightlaw13_Op_kind.outs) (N := 8) Tryz.func38 (c := wainwrightlaw13_Op_kind.code) rfl rfl (by kernel_rfl) (by kernel_rfl) wainwrightlaw13_Op_kind.ok (by decide)
  rw [wainwrightlaw13_Op_kind.eq] at h
  exact h

/-! ### wainwright/wainwrightlaw13.StockOnce: function 7 -/
noncomputable def wainwrightlaw13_StockOnce.l2 : ((List Bool × (Bool × Int) × (List (Int × List UInt8)) × List (List UInt8) × List (List UInt8) × (Int × Int) × List (List UInt8) × List (Int × List UInt8)) × Int × (List (Int × Int)) × Int × Int × Int × Int × Int) → Option (((List Bool × (Bool × Int) × (List (Int × List UInt8)) × List (List UInt8) × List (List UInt8) × (Int × Int) × List (List UInt8) × List (Int × List UInt8)) × Int × (List (Int × Int)) × Int × Int × Int × Int × Int) ⊕ (((List Bool × (Bool × Int) × (List (Int × List UInt8)) × List (List UInt8) × List (List UInt8) × (Int × Int) × List (List UInt8) × List (Int × List UInt8)) × Int × (List (Int × Int)) × Int × Int) ⊕ Bool)) := fun ((taken6, (o4b, o4c), o5, o6, o7, (o8c, o8d), o9, o10), n0, script1, count7, i8, at10, k11, j15) =>
  if decide (j15 < IntKind.i64.wrap (at10 + k11)) = true then
    if decide (j15 < 51) = false then
      if decide (j15 ≥ n0) = false then
        if 0 ≤ j15 ∧ j15 < (taken6.length : Int) then
          if taken6.getD j15.toNat false = true then
            some (.inr (.inr false))
          else
            if 0 ≤ j15 ∧ j15 < (taken6.length : Int) then
              some (.inl (((taken6.set j15.toNat true, (o4b, o4c), o5, o6, o7, (o8c, o8d), o9, o10), n0, script1, IntKind.i64.wrap (count7 + 1), i8, at10, k11, IntKind.i64.wrap (j15 + 1))))
            else none
        else none
      else
        some (.inr (.inr false))
    else
      some (.inr (.inr false))
  else
    some (.inr (.inl (((taken6, (o4b, o4c), o5, o6, o7, (o8c, o8d), o9, o10), n0, script1, count7, i8))))

noncomputable def wainwrightlaw13_StockOnce.l1 : ((List Bool × (Bool × Int) × (List (Int × List UInt8)) × List (List UInt8) × List (List UInt8) × (Int × Int) × List (List UInt8) × List (Int × List UInt8)) × Int × (List (Int × Int)) × Int × Int) → Option (((List Bool × (Bool × Int) × (List (Int × List UInt8)) × List (List UInt8) × List (List UInt8) × (Int × Int) × List (List UInt8) × List (Int × List UInt8)) × Int × (List (Int × Int)) × Int × Int) ⊕ ((((Bool × Int) × (List (Int × List UInt8)) × List (List UInt8) × List (List UInt8) × (Int × Int) × List (List UInt8) × List (Int × List UInt8)) × Int × Int) ⊕ Bool)) := fun ((taken6, (o4b, o4c), o5, o6, o7, (o8c, o8d), o9, o10), n0, script1, count7, i8) =>
  if decide (i8 < (script1.length : Int)) = true then
    if 0 ≤ i8 ∧ i8 < (script1.length : Int) then
      ((
        (wainwrightlaw13_Op_kind ((script1.getD i8.toNat (0, 0)).1, (script1.getD i8.toNat (0, 0)).2)).bind fun r41 =>
          if (r41 == 0) = true then
            (stock_Take_1 ((o4b, o4c), o5, (o8c, o8d), o9, o10)).bind fun (((r49, r49_2), r49_3, (r49_4, r49_5), r49_6, r49_7), r49_8, r49_9) =>
              some (.inr (.inl (((taken6, ((script1.getD i8.toNat (0, 0)).1, (script1.getD i8.toNat (0, 0)).2), (r49, r49_2), r49_3, o6, o7, (r49_4, r49_5), r49_6, r49_7), n0, script1, count7, i8, r49_8, 1, r49_9))))
          else
            if (r41 == 1) = true then
              (stock_Run_1 (((o4b, o4c), o5, (o8c, o8d), o9, o10), (script1.getD i8.toNat (0, 0)).2)).bind fun (((r61, r61_2), r61_3, (r61_4, r61_5), r61_6, r61_7), r61_8, r61_9, r61_10) =>
                some (.inr (.inl (((taken6, ((script1.getD i8.toNat (0, 0)).1, (script1.getD i8.toNat (0, 0)).2), (r61, r61_2), r61_3, o6, o7, (r61_4, r61_5), r61_6, r61_7), n0, script1, count7, i8, r61_8, r61_9, r61_10))))
            else
              if (r41 == 2) = true then
                (stock_Drop_1 (((o4b, o4c), o5, (o8c, o8d), o9, o10), (script1.getD i8.toNat (0, 0)).2)).bind fun (((r73, r73_2), r73_3, (r73_4, r73_5), r73_6, r73_7), r73_8) =>
                  ((
                    if decide ((script1.getD i8.toNat (0, 0)).2 ≥ 51) = true then
                      if decide ((script1.getD i8.toNat (0, 0)).2 < n0) = true then
                        if 0 ≤ (if IntKind.i64.wrap (n0 - 1) < (if 0 > (script1.getD i8.toNat (0, 0)).2 then 0 else (script1.getD i8.toNat (0, 0)).2) then IntKind.i64.wrap (n0 - 1) else (if 0 > (script1.getD i8.toNat (0, 0)).2 then 0 else (script1.getD i8.toNat (0, 0)).2)) ∧ (if IntKind.i64.wrap (n0 - 1) < (if 0 > (script1.getD i8.toNat (0, 0)).2 then 0 else (script1.getD i8.toNat (0, 0)).2) then IntKind.i64.wrap (n0 - 1) else (if 0 > (script1.getD i8.toNat (0, 0)).2 then 0 else (script1.getD i8.toNat (0, 0)).2)) < (taken6.length : Int) then
                          some ((((taken6, ((script1.getD i8.toNat (0, 0)).1, (script1.getD i8.toNat (0, 0)).2), (r73, r73_2), r73_3, o6, o7, (r73_4, r73_5), r73_6, r73_7), n0, script1, count7, i8, r73_8, taken6.getD (((if IntKind.i64.wrap (n0 - 1) < (if 0 > (script1.getD i8.toNat (0, 0)).2 then 0 else (script1.getD i8.toNat (0, 0)).2) then IntKind.i64.wrap (n0 - 1) else (if 0 > (script1.getD i8.toNat (0, 0)).2 then 0 else (script1.getD i8.toNat (0, 0)).2))).toNat) false)))
                        else none
                      else
                        some ((((taken6, ((script1.getD i8.toNat (0, 0)).1, (script1.getD i8.toNat (0, 0)).2), (r73, r73_2), r73_3, o6, o7, (r73_4, r73_5), r73_6, r73_7), n0, script1, count7, i8, r73_8, false)))
                    else
                      some ((((taken6, ((script1.getD i8.toNat (0, 0)).1, (script1.getD i8.toNat (0, 0)).2), (r73, r73_2), r73_3, o6, o7, (r73_4, r73_5), r73_6, r73_7), n0, script1, count7, i8, r73_8, false)))) : Option ((List Bool × (Int × Int) × (Bool × Int) × (List (Int × List UInt8)) × List (List UInt8) × List (List UInt8) × (Int × Int) × List (List UInt8) × List (Int × List UInt8)) × Int × (List (Int × Int)) × Int × Int × Int × Bool)).bind fun ((taken6, (ov9a, ov9b), (o5b, o5c), o6, o7, o8, (o9c, o9d), o10, o11), n0, script1, count7, i8, f13, there14) =>
                    if (!((f13 == 0) == there14)) = true then
                      some (.inr (.inr false))
                    else
                      if there14 = true then
                        if 0 ≤ ov9b ∧ ov9b < (taken6.length : Int) then
                          some (.inl (((taken6.set ov9b.toNat false, (o5b, o5c), o6, o7, o8, (o9c, o9d), o10, o11), n0, script1, IntKind.i64.wrap (count7 - 1), i8)))
                        else none
                      else
                        some (.inl (((taken6, (o5b, o5c), o6, o7, o8, (o9c, o9d), o10, o11), n0, script1, count7, i8)))
              else
                some (.inl (((taken6, (o4b, o4c), o5, o6, o7, (o8c, o8d), o9, o10), n0, script1, count7, i8)))) : Option (((List Bool × (Bool × Int) × (List (Int × List UInt8)) × List (List UInt8) × List (List UInt8) × (Int × Int) × List (List UInt8) × List (Int × List UInt8)) × Int × (List (Int × Int)) × Int × Int) ⊕ ((List Bool × (Int × Int) × (Bool × Int) × (List (Int × List UInt8)) × List (List UInt8) × List (List UInt8) × (Int × Int) × List (List UInt8) × List (Int × List UInt8)) × Int × (List (Int × Int)) × Int × Int × Int × Int × Int) ⊕ Bool)).bind fun d => match d with
      | .inl ((taken6, (o4b, o4c), o5, o6, o7, (o8c, o8d), o9, o10), n0, script1, count7, i8) =>
        some (.inl (((taken6, (o4b, o4c), o5, o6, o7, (o8c, o8d), o9, o10), n0, script1, count7, IntKind.i64.wrap (i8 + 1))))
      | .inr (.inl ((taken6, (ov9a, ov9b), (o5b, o5c), o6, o7, o8, (o9c, o9d), o10, o11), n0, script1, count7, i8, at10, k11, e12)) =>
        if (e12 != 0) = true then
          if decide (count7 < IntKind.i64.wrap (n0 - 51)) = true then
            (wainwrightlaw13_Op_kind (ov9a, ov9b)).bind fun r113 =>
              if (r113 == 0) = false then
                if decide (ov9b ≥ 1) = true then
                  some (.inr (.inr false))
                else
                  some (.inl (((taken6, (o5b, o5c), o6, o7, o8, (o9c, o9d), o10, o11), n0, script1, count7, IntKind.i64.wrap (i8 + 1))))
              else
                some (.inr (.inr false))
          else
            some (.inl (((taken6, (o5b, o5c), o6, o7, o8, (o9c, o9d), o10, o11), n0, script1, count7, IntKind.i64.wrap (i8 + 1))))
        else
          (loopO wainwrightlaw13_StockOnce.l2 (((taken6, (o5b, o5c), o6, o7, o8, (o9c, o9d), o10, o11), n0, script1, count7, i8, at10, k11, at10))).bind fun d => match d with
          | .inl ((taken6, (o4b, o4c), o5, o6, o7, (o8c, o8d), o9, o10), n0, script1, count7, i8) =>
            some (.inl (((taken6, (o4b, o4c), o5, o6, o7, (o8c, o8d), o9, o10), n0, script1, count7, IntKind.i64.wrap (i8 + 1))))
          | .inr t4 =>
            some (.inr (.inr t4))
      | .inr (.inr t4) =>
        some (.inr (.inr t4))
    else none
  else
    some (.inr (.inl ((((o4b, o4c), o5, o6, o7, (o8c, o8d), o9, o10), n0, count7))))

noncomputable def wainwrightlaw13_StockOnce : (Int × List (Int × Int)) → Option (Bool) := fun (n0, script1) =>
  (wainwrightlaw13_lives ()).bind fun r18 =>
    if (!r18) = true then
      some false
    else
      (wainwrightlaw13_size n0).bind fun r21 =>
        (wainwrightlaw13_begin (r21, [])).bind fun d => match d with
        | .inl _ =>
          some false
        | .inr (.inl (r23b, r23_2b)) =>
          (wainwrightlaw13_early script1).bind fun r27 =>
            if 0 ≤ r21 ∧ r21 ≤ r21 ∧ r21 * (1 : Nat) ≤ 140737488355328 ∧ r21 ≤ 9223372036854775807 then
              none
            else none
        | .inr (.inr (((r23c, r23_2c), r23_3c, r23_4c, r23_5c, (r23_6c, r23_7c), r23_8c, r23_9c))) =>
          (wainwrightlaw13_early script1).bind fun r27a =>
            if 0 ≤ r21 ∧ r21 ≤ r21 ∧ r21 * (1 : Nat) ≤ 140737488355328 ∧ r21 ≤ 9223372036854775807 then
              (loopO wainwrightlaw13_StockOnce.l1 (((List.replicate r21.toNat (false : Bool), (r23c, r23_2c), r23_3c, r23_4c, r23_5c, (r23_6c, r23_7c), r23_8c, r23_9c), r21, r27a, 0, 0))).bind fun d => match d with
              | .inl (((o3b, o3c), o4, o5, o6, (o7c, o7d), o8, o9), n0, count7) =>
                (stock_Free_1 ((o3b, o3c), o4, (o7c, o7d), o8, o9)).bind fun (((r152, r152_2), r152_3, (r152_4, r152_5), r152_6, r152_7), r152_8, r152_9) =>
                  if (r152_9 == 0) = true then
                    some (((r152_8 == IntKind.i64.wrap ((IntKind.i64.wrap (n0 - 51)) - count7))))
                  else
                    some false
              | .inr t4 =>
                some t4
            else none

def wainwrightlaw13_StockOnce.ins : Spec := ⟨165, 0, [], [0, 1], (.cons (.v I) (.cons (.v (.sl (.st (.pair I I)))) .nil))⟩
def wainwrightlaw13_StockOnce.outs : List Spec := [⟨165, 0, [], [4], (.cons (.v .bool) .nil)⟩]
noncomputable def wainwrightlaw13_StockOnce.c : Callee' := ⟨7, mkFits wainwrightlaw13_StockOnce.ins wainwrightlaw13_StockOnce.outs, mkFun wainwrightlaw13_StockOnce.ins wainwrightlaw13_StockOnce.outs wainwrightlaw13_StockOnce, mkFun_nat _ _ _⟩
theorem wainwrightlaw13_StockOnce.quiet : FunQuiet wainwrightlaw13_StockOnce.c.F := mkFun_quiet rfl rfl
noncomputable def wainwrightlaw13_StockOnce.ann : Ann :=
  (.seq (.reg []) (.seq (.seq (.reg [.callq [wainwrightlaw13_lives.c]]) (.cond (.seq (.reg []) .std) .std)) (.seq (.reg [.std, .callq [wainwrightlaw13_size.c]]) (.seq (.reg [.std, .call [wainwrightlaw13_begin.c]]) (.seq (.seq (.reg [.std, .obj .bool]) (.cond (.seq (.reg []) .std) .std)) (.seq (.reg [.std, .callq [wainwrightlaw13_early.c]]) (.seq (.reg [.std, .obj .bool]) (.seq (.reg []) (.seq (.seq (.reg []) (.block (.loop ⟨165, 0, [.box (.cons (.ref 2) (.cons (.ref 3) .nil)), .arr .bool, .box (.cons (.ref 4) (.cons (.ref 5) .nil)), .box (.cons (.ref 6) (.cons (.ref 7) .nil)), .box (.cons (.ref 8) (.cons (.v .bool) (.cons (.v I) .nil))), .map I .str, .arr .str, .arr .str, .box (.cons (.ref 9) (.cons (.ref 10) (.cons (.v I) (.cons (.v I) .nil)))), .arr .str, .map I .str], [0, 1, 5, 6, 7, 8], (.cons (.v I) (.cons (.v (.sl (.st (.pair I I)))) (.cons (.ref 0) (.cons (.ref 1) (.cons (.v I) (.cons (.v I) .nil))))))⟩ [(.exit 0, ⟨165, 0, [.box (.cons (.ref 1) (.cons (.ref 2) .nil)), .box (.cons (.ref 3) (.cons (.ref 4) .nil)), .box (.cons (.ref 5) (.cons (.ref 6) .nil)), .box (.cons (.ref 7) (.cons (.v .bool) (.cons (.v I) .nil))), .map I .str, .arr .str, .arr .str, .box (.cons (.ref 8) (.cons (.ref 9) (.cons (.v I) (.cons (.v I) .nil)))), .arr .str, .map I .str], [0, 5, 7], (.cons (.v I) (.cons (.ref 0) (.cons (.v I) .nil)))⟩), (.ret, ⟨165, 0, [], [4], (.cons (.v .bool) .nil)⟩)]
  (.seq (.seq (.reg []) (.cond .std .std)) (.seq (.block (.seq (.reg []) (.seq (.reg []) (.join [(.exit 1, ⟨165, 0, [.box (.cons (.ref 2) (.cons (.ref 3) .nil)), .arr .bool, .box (.cons (.ref 4) (.cons (.ref 5) .nil)), .box (.cons (.ref 6) (.cons (.ref 7) .nil)), .box (.cons (.ref 8) (.cons (.v .bool) (.cons (.v I) .nil))), .map I .str, .arr .str, .arr .str, .box (.cons (.ref 9) (.cons (.ref 10) (.cons (.v I) (.cons (.v I) .nil)))), .arr .str, .map I .str], [0, 1, 5, 6, 7, 8], (.cons (.v I) (.cons (.v (.sl (.st (.pair I I)))) (.cons (.ref 0) (.cons (.ref 1) (.cons (.v I) (.cons (.v I) .nil))))))⟩), (.norm, ⟨165, 0, [.box (.cons (.ref 3) (.cons (.ref 4) .nil)), .arr .bool, .box (.cons (.v I) (.cons (.v I) .nil)), .box (.cons (.ref 5) (.cons (.ref 6) .nil)), .box (.cons (.ref 7) (.cons (.ref 8) .nil)), .box (.cons (.ref 9) (.cons (.v .bool) (.cons (.v I) .nil))), .map I .str, .arr .str, .arr .str, .box (.cons (.ref 10) (.cons (.ref 11) (.cons (.v I) (.cons (.v I) .nil)))), .arr .str, .map I .str], [0, 1, 5, 6, 7, 8, 9, 10, 11, 12], (.cons (.v I) (.cons (.v (.sl (.st (.pair I I)))) (.cons (.ref 0) (.cons (.ref 1) (.cons (.v I) (.cons (.v I) (.cons (.ref 2) (.cons (.v I) (.cons (.v I) (.cons (.v I) .nil))))))))))⟩), (.ret, ⟨165, 0, [], [4], (.cons (.v .bool) .nil)⟩)]
  (.seq (.reg [.std, .callq [wainwrightlaw13_Op_kind.c]]) (.block (.seq (.reg []) (.cond (.reg [.std, .std, .std, .std, .call [stock_Take_1.c]]) (.seq (.reg []) (.cond (.drw [.std, .std, .std, .std, .std, .std, .call [stock_Run_1.c]]) (.seq (.reg []) (.cond (.seq (.drw [.std, .std, .std, .std, .std, .std, .call [stock_Drop_1.c]]) (.join [(.norm, ⟨165, 0, [.box (.cons (.ref 3) (.cons (.ref 4) .nil)), .arr .bool, .box (.cons (.v I) (.cons (.v I) .nil)), .box (.cons (.ref 5) (.cons (.ref 6) .nil)), .box (.cons (.ref 7) (.cons (.ref 8) .nil)), .box (.cons (.ref 9) (.cons (.v .bool) (.cons (.v I) .nil))), .map I .str, .arr .str, .arr .str, .box (.cons (.ref 10) (.cons (.ref 11) (.cons (.v I) (.cons (.v I) .nil)))), .arr .str, .map I .str], [0, 1, 5, 6, 7, 8, 9, 13, 14], (.cons (.v I) (.cons (.v (.sl (.st (.pair I I)))) (.cons (.ref 0) (.cons (.ref 1) (.cons (.v I) (.cons (.v I) (.cons (.ref 2) (.cons (.v I) (.cons (.v .bool) .nil)))))))))⟩)]
  (.reg []) (.seq (.seq (.reg []) (.cond (.seq (.reg []) .std) .std)) (.seq (.seq (.reg []) (.cond (.seq (.reg []) (.reg [])) .std)) .std)))) .std)))))))) (.seq (.seq (.reg []) (.cond (.seq (.seq (.reg [.std, .std, .std, .std, .std, .std, .callq [wainwrightlaw13_Op_kind.c]]) (.cond (.seq (.reg []) .std) .std)) .std) .std)) (.seq (.reg []) (.block (.loop ⟨165, 0, [.box (.cons (.ref 2) (.cons (.ref 3) .nil)), .arr .bool, .box (.cons (.ref 4) (.cons (.ref 5) .nil)), .box (.cons (.ref 6) (.cons (.ref 7) .nil)), .box (.cons (.ref 8) (.cons (.v .bool) (.cons (.v I) .nil))), .map I .str, .arr .str, .arr .str, .box (.cons (.ref 9) (.cons (.ref 10) (.cons (.v I) (.cons (.v I) .nil)))), .arr .str, .map I .str], [0, 1, 5, 6, 7, 8, 10, 11, 15], (.cons (.v I) (.cons (.v (.sl (.st (.pair I I)))) (.cons (.ref 0) (.cons (.ref 1) (.cons (.v I) (.cons (.v I) (.cons (.v I) (.cons (.v I) (.cons (.v I) .nil)))))))))⟩ [(.exit 3, ⟨165, 0, [.box (.cons (.ref 2) (.cons (.ref 3) .nil)), .arr .bool, .box (.cons (.ref 4) (.cons (.ref 5) .nil)), .box (.cons (.ref 6) (.cons (.ref 7) .nil)), .box (.cons (.ref 8) (.cons (.v .bool) (.cons (.v I) .nil))), .map I .str, .arr .str, .arr .str, .box (.cons (.ref 9) (.cons (.ref 10) (.cons (.v I) (.cons (.v I) .nil)))), .arr .str, .map I .str], [0, 1, 5, 6, 7, 8], (.cons (.v I) (.cons (.v (.sl (.st (.pair I I)))) (.cons (.ref 0) (.cons (.ref 1) (.cons (.v I) (.cons (.v I) .nil))))))⟩), (.ret, ⟨165, 0, [], [4], (.cons (.v .bool) .nil)⟩)]
  (.seq (.seq (.reg []) (.cond .std .std)) (.seq (.block (.seq (.seq (.reg []) (.cond (.seq (.reg []) .std) .std)) (.seq (.reg []) (.reg [])))) (.reg []))))))))))) (.reg [])))))) (.seq (.reg [.std, .std, .std, .std, .call [stock_Free_1.c]]) (.seq (.reg []) .std)))))))))))
noncomputable def wainwrightlaw13_StockOnce.code : Code := match Tryz.f7.body with | some c => c | none => .skip
theorem wainwrightlaw13_StockOnce.eq : absFn tt 165 wainwrightlaw13_StockOnce.ins wainwrightlaw13_StockOnce.outs wainwrightlaw13_StockOnce.code wainwrightlaw13_StockOnce.ann = wainwrightlaw13_StockOnce := by
  funext a
  kernel_rfl
theorem wainwrightlaw13_StockOnce.ok : wainwrightlaw13_StockOnce.ann.ok Tryz.prog 0 165 :=
  ann_ok (by kernel_rfl) (by kernel_rfl) (show ∀ c ∈ ([wainwrightlaw13_lives.c, wainwrightlaw13_size.c, wainwrightlaw13_begin.c, wainwrightlaw13_early.c, wainwrightlaw13_Op_kind.c, stock_Take_1.c, stock_Run_1.c, stock_Drop_1.c, wainwrightlaw13_Op_kind.c, stock_Free_1.c] : List Callee'), c.ok Tryz.prog from cs_cons wainwrightlaw13_lives.sound (cs_cons wainwrightlaw13_size.sound (cs_cons wainwrightlaw13_begin.sound (cs_cons wainwrightlaw13_early.sound (cs_cons wainwrightlaw13_Op_kind.sound (cs_cons stock_Take_1.sound (cs_cons stock_Run_1.sound (cs_cons stock_Drop_1.sound (cs_cons wainwrightlaw13_Op_kind.sound (cs_cons stock_Free_1.sound cs_nil))))))))))
    (show ∀ c ∈ ([wainwrightlaw13_lives.c, wainwrightlaw13_size.c, wainwrightlaw13_early.c, wainwrightlaw13_Op_kind.c, wainwrightlaw13_Op_kind.c] : List Callee'), FunQuiet c.F from cs_cons wainwrightlaw13_lives.quiet (cs_cons wainwrightlaw13_size.quiet (cs_cons wainwrightlaw13_early.quiet (cs_cons wainwrightlaw13_Op_kind.quiet (cs_cons wainwrightlaw13_Op_kind.quiet cs_nil)))))
theorem wainwrightlaw13_StockOnce.sound : wainwrightlaw13_StockOnce.c.ok Tryz.prog := by
  refine ⟨?_, Tryz.f7, wainwrightlaw13_StockOnce.code, Tryz.func7, rfl, by decide⟩
  have h := fn_sound tt_ok mix_ok (x := wainwrightlaw13_StockOnce.ann) (ins := wainwrightlaw13_StockOnce.ins) (outs := wainwrightlaw13_StockOnce.outs) (N := 165) Tryz.func7 (c := wainwrightlaw13_StockOnce.code) rfl rfl (by kernel_rfl) (by kernel_rfl) wainwrightlaw13_StockOnce.ok (by decide)
  rw [wainwrightlaw13_StockOnce.eq] at h
  exact h

end Go.Proofs.YtiodpeekbeahlaaGreatDoor.Abs
