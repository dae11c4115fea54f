/- The functions as the abstract machine computes them: printed by gen2.py (own work). -/
import Derived.Test.YtiodpeekbeahlaaGreatDoorStp
namespace Go.Proofs.YtiodpeekbeahlaaGreatDoor.Abs
open Go Go.Proofs
set_option maxRecDepth 100000
set_option linter.unusedVariables false


/-! ### (*wainwright/stock.store).use: function 91 -/
noncomputable def stock_store_use_1.l1 : (((Int × Int × Int × List UInt8) × (Bool × Int) × (List (Int × List UInt8)) × (Int × Int) × List (List UInt8) × List (Int × List UInt8)) × Int × Int × Int) → Option ((((Int × Int × Int × List UInt8) × (Bool × Int) × (List (Int × List UInt8)) × (Int × Int) × List (List UInt8) × List (Int × List UInt8)) × Int × Int × Int) ⊕ (((Int × Int × Int × List UInt8) × (Bool × Int) × (List (Int × List UInt8)) × (Int × Int) × List (List UInt8) × List (Int × List UInt8)) ⊕ (((Int × Int × Int × List UInt8) × (Bool × Int) × (List (Int × List UInt8)) × (Int × Int) × List (List UInt8) × List (Int × List UInt8)) × Int))) := fun (((s0b, s0c, s0d, s0e), (o2b, o2c), o3, (o4c, o4d), o5, o6), at1, n2, i7) =>
  if decide (i7 < IntKind.i64.wrap (at1 + n2)) = true then
    (marks_Set (s0e, i7, true)).bind fun r23 =>
      (deal_Deal_Write_1 (((o2b, o2c), o3, (o4c, o4d), o5, o6), i7, [])).bind fun (((r31, r31_2), r31_3, (r31_4, r31_5), r31_6, r31_7), r31_8) =>
        if (r31_8 != 0) = true then
          some (.inr (.inr (((((s0b, s0c, s0d, r23), (r31, r31_2), r31_3, (r31_4, r31_5), r31_6, r31_7), r31_8)))))
        else
          some (.inl ((((s0b, s0c, s0d, r23), (r31, r31_2), r31_3, (r31_4, r31_5), r31_6, r31_7), at1, n2, IntKind.i64.wrap (i7 + 1))))
  else
    some (.inr (.inl (((s0b, s0c, s0d, s0e), (o2b, o2c), o3, (o4c, o4d), o5, o6))))

noncomputable def stock_store_use_1 : (((Int × Int × Int × List UInt8) × (Bool × Int) × (List (Int × List UInt8)) × (Int × Int) × List (List UInt8) × List (Int × List UInt8)) × Int × Int) → Option (((Int × Int × Int × List UInt8) × (Bool × Int) × (List (Int × List UInt8)) × (Int × Int) × List (List UInt8) × List (Int × List UInt8)) × Int) := fun (((s0b, s0c, s0d, s0e), (o2b, o2c), o3, (o4c, o4d), o5, o6), at1, n2) =>
  (loopO stock_store_use_1.l1 ((((s0b, s0c, s0d, s0e), (o2b, o2c), o3, (o4c, o4d), o5, o6), at1, n2, at1))).bind fun d => match d with
  | .inl ((s0b, s0c, s0d, s0e), (o2b, o2c), o3, (o4c, o4d), o5, o6) =>
    (deal_Deal_Write_1 (((o2b, o2c), o3, (o4c, o4d), o5, o6), 42, s0e)).bind fun (((r43, r43_2), r43_3, (r43_4, r43_5), r43_6, r43_7), r43_8) =>
      some (((((s0b, s0c, s0d, s0e), (r43, r43_2), r43_3, (r43_4, r43_5), r43_6, r43_7), r43_8)))
  | .inr ((((o0b, o0c, o0d, o0e), (o2b, o2c), o3, (o4c, o4d), o5, o6), t6)) =>
    some (((((o0b, o0c, o0d, o0e), (o2b, o2c), o3, (o4c, o4d), o5, o6), t6)))

def stock_store_use_1.ins : Spec := ⟨44, 0, [.box (.cons (.ref 1) (.cons (.v I) (.cons (.v I) (.cons (.v I) (.cons (.v .str) .nil))))), .box (.cons (.ref 2) (.cons (.ref 3) .nil)), .box (.cons (.ref 4) (.cons (.v .bool) (.cons (.v I) .nil))), .map I .str, .box (.cons (.ref 5) (.cons (.ref 6) (.cons (.v I) (.cons (.v I) .nil)))), .arr .str, .map I .str], [0, 1, 2], (.cons (.ref 0) (.cons (.v I) (.cons (.v I) .nil)))⟩
def stock_store_use_1.outs : List Spec := [⟨44, 7, [.box (.cons (.ref 1) (.cons (.v I) (.cons (.v I) (.cons (.v I) (.cons (.v .str) .nil))))), .box (.cons (.ref 2) (.cons (.ref 3) .nil)), .box (.cons (.ref 4) (.cons (.v .bool) (.cons (.v I) .nil))), .map I .str, .box (.cons (.ref 5) (.cons (.ref 6) (.cons (.v I) (.cons (.v I) .nil)))), .arr .str, .map I .str], [6], (.cons (.v I) .nil)⟩]
noncomputable def stock_store_use_1.c : Callee' := ⟨91, mkFits stock_store_use_1.ins stock_store_use_1.outs, mkFun stock_store_use_1.ins stock_store_use_1.outs stock_store_use_1, mkFun_nat _ _ _⟩
noncomputable def stock_store_use_1.ann : Ann :=
  (.seq (.reg []) (.seq (.seq (.reg []) (.block (.loop ⟨44, 7, [.box (.cons (.ref 1) (.cons (.v I) (.cons (.v I) (.cons (.v I) (.cons (.v .str) .nil))))), .box (.cons (.ref 2) (.cons (.ref 3) .nil)), .box (.cons (.ref 4) (.cons (.v .bool) (.cons (.v I) .nil))), .map I .str, .box (.cons (.ref 5) (.cons (.ref 6) (.cons (.v I) (.cons (.v I) .nil)))), .arr .str, .map I .str], [0, 1, 2, 7], (.cons (.ref 0) (.cons (.v I) (.cons (.v I) (.cons (.v I) .nil))))⟩ [(.exit 0, ⟨44, 7, [.box (.cons (.ref 1) (.cons (.v I) (.cons (.v I) (.cons (.v I) (.cons (.v .str) .nil))))), .box (.cons (.ref 2) (.cons (.ref 3) .nil)), .box (.cons (.ref 4) (.cons (.v .bool) (.cons (.v I) .nil))), .map I .str, .box (.cons (.ref 5) (.cons (.ref 6) (.cons (.v I) (.cons (.v I) .nil)))), .arr .str, .map I .str], [0], (.cons (.ref 0) .nil)⟩), (.ret, ⟨44, 7, [.box (.cons (.ref 1) (.cons (.v I) (.cons (.v I) (.cons (.v I) (.cons (.v .str) .nil))))), .box (.cons (.ref 2) (.cons (.ref 3) .nil)), .box (.cons (.ref 4) (.cons (.v .bool) (.cons (.v I) .nil))), .map I .str, .box (.cons (.ref 5) (.cons (.ref 6) (.cons (.v I) (.cons (.v I) .nil)))), .arr .str, .map I .str], [6], (.cons (.v I) .nil)⟩)]
  (.seq (.seq (.reg []) (.cond .std .std)) (.seq (.block (.seq (.reg [.std, .std, .std, .std, .std, .std, .callq [marks_Set.c]]) (.seq (.reg [.std, .std, .std, .std, .std, .call [deal_Deal_Write_1.c]]) (.seq (.reg []) (.cond (.seq (.reg []) .std) .std))))) (.reg [])))))) (.seq (.drw [.std, .std, .std, .std, .std, .std, .std, .std, .call [deal_Deal_Write_1.c]]) .std)))
noncomputable def stock_store_use_1.code : Code := match Tryz.f91.body with | some c => c | none => .skip
theorem stock_store_use_1.eq : absFn tt 44 stock_store_use_1.ins stock_store_use_1.outs stock_store_use_1.code stock_store_use_1.ann = stock_store_use_1 := by
  funext a
  kernel_rfl
theorem stock_store_use_1.ok : stock_store_use_1.ann.ok Tryz.prog 7 44 :=
  ann_ok (by kernel_rfl) (by kernel_rfl) (show ∀ c ∈ ([marks_Set.c, deal_Deal_Write_1.c, deal_Deal_Write_1.c] : List Callee'), c.ok Tryz.prog from cs_cons marks_Set.sound (cs_cons deal_Deal_Write_1.sound (cs_cons deal_Deal_Write_1.sound cs_nil)))
    (show ∀ c ∈ ([marks_Set.c] : List Callee'), FunQuiet c.F from cs_cons marks_Set.quiet cs_nil)
theorem stock_store_use_1.sound : stock_store_use_1.c.ok Tryz.prog := by
  refine ⟨?_, Tryz.f91, stock_store_use_1.code, Tryz.func91, rfl, by decide⟩
  have h := fn_sound tt_ok mix_ok (x := stock_store_use_1.ann) (ins := stock_store_use_1.ins) (outs := stock_store_use_1.outs) (N := 44) Tryz.func91 (c := stock_store_use_1.code) rfl rfl (by kernel_rfl) (by kernel_rfl) stock_store_use_1.ok (by decide)
  rw [stock_store_use_1.eq] at h
  exact h

/-! ### wainwright/stock.Run: function 40 -/
noncomputable def stock_Run_1 : (((Bool × Int) × (List (Int × List UInt8)) × (Int × Int) × List (List UInt8) × List (Int × List UInt8)) × Int) → Option (((Bool × Int) × (List (Int × List UInt8)) × (Int × Int) × List (List UInt8) × List (Int × List UInt8)) × Int × Int × Int) := fun (((o1b, o1c), o2, (o3c, o3d), o4, o5), n1) =>
  (stock_open_1 ((o1b, o1c), o2, (o3c, o3d), o4, o5)).bind fun d => match d with
  | .inl (((r12, r12_2), r12_3, (r12_4, r12_5), r12_6, r12_7), r12_8) =>
    if (r12_8 != 0) = true then
      some (((((r12, r12_2), r12_3, (r12_4, r12_5), r12_6, r12_7), 0, 0, r12_8)))
    else
      if decide (n1 < 1) = true then
        some (((((r12, r12_2), r12_3, (r12_4, r12_5), r12_6, r12_7), 0, 0, 1)))
      else none
  | .inr ((((r12b, r12_2b), r12_3b, (r12_4b, r12_5b), r12_6b, r12_7b, r12_8b, r12_9b, r12_10b, r12_11b), r12_12b)) =>
    if (r12_12b != 0) = true then
      some (((((r12b, r12_2b), r12_3b, (r12_4b, r12_5b), r12_6b, r12_7b), 0, 0, r12_12b)))
    else
      if decide (n1 < 1) = true then
        some (((((r12b, r12_2b), r12_3b, (r12_4b, r12_5b), r12_6b, r12_7b), 0, 0, 1)))
      else
        (stock_store_row_1 (((((r12_6b, r12_7b, r12_4b, r12_5b), r12b, r12_2b), r12_3b), r12_8b, r12_9b, r12_10b, r12_11b), n1)).bind fun (r25, r25_2) =>
          if (r25_2 == 0) = true then
            some (((((r12b, r12_2b), r12_3b, (r12_4b, r12_5b), r12_6b, r12_7b), 0, 0, 10)))
          else
            (stock_store_use_1 (((r12_8b, r12_9b, r12_10b, r12_11b), (r12b, r12_2b), r12_3b, (r12_4b, r12_5b), r12_6b, r12_7b), r25, r25_2)).bind fun (((r35, r35_2, r35_3, r35_4), (r35_5, r35_6), r35_7, (r35_8, r35_9), r35_10, r35_11), r35_12) =>
              some (((((r35_5, r35_6), r35_7, (r35_8, r35_9), r35_10, r35_11), r25, r25_2, r35_12)))

def stock_Run_1.ins : Spec := ⟨36, 0, [.box (.cons (.ref 1) (.cons (.ref 2) .nil)), .box (.cons (.ref 3) (.cons (.v .bool) (.cons (.v I) .nil))), .map I .str, .box (.cons (.ref 4) (.cons (.ref 5) (.cons (.v I) (.cons (.v I) .nil)))), .arr .str, .map I .str], [0, 1], (.cons (.ref 0) (.cons (.v I) .nil))⟩
def stock_Run_1.outs : List Spec := [⟨36, 6, [.box (.cons (.ref 1) (.cons (.ref 2) .nil)), .box (.cons (.ref 3) (.cons (.v .bool) (.cons (.v I) .nil))), .map I .str, .box (.cons (.ref 4) (.cons (.ref 5) (.cons (.v I) (.cons (.v I) .nil)))), .arr .str, .map I .str], [4, 5, 6], (.cons (.v I) (.cons (.v I) (.cons (.v I) .nil)))⟩]
noncomputable def stock_Run_1.c : Callee' := ⟨40, mkFits stock_Run_1.ins stock_Run_1.outs, mkFun stock_Run_1.ins stock_Run_1.outs stock_Run_1, mkFun_nat _ _ _⟩
noncomputable def stock_Run_1.ann : Ann :=
  (.seq (.reg []) (.seq (.reg [.std, .call [stock_open_1.c]]) (.seq (.block (.seq (.reg []) (.cond (.seq (.reg []) .std) (.seq (.reg []) (.cond (.seq (.reg []) .std) .std))))) (.seq (.reg [.std, .std, .callq [stock_store_row_1.c]]) (.seq (.seq (.reg []) (.cond (.seq (.reg []) .std) .std)) (.seq (.reg [.std, .std, .std, .std, .std, .call [stock_store_use_1.c]]) .std))))))
noncomputable def stock_Run_1.code : Code := match Tryz.f40.body with | some c => c | none => .skip
theorem stock_Run_1.eq : absFn tt 36 stock_Run_1.ins stock_Run_1.outs stock_Run_1.code stock_Run_1.ann = stock_Run_1 := by
  funext a
  kernel_rfl
theorem stock_Run_1.ok : stock_Run_1.ann.ok Tryz.prog 6 36 :=
  ann_ok (by kernel_rfl) (by kernel_rfl) (show ∀ c ∈ ([stock_open_1.c, stock_store_row_1.c, stock_store_use_1.c] : List Callee'), c.ok Tryz.prog from cs_cons stock_open_1.sound (cs_cons stock_store_row_1.sound (cs_cons stock_store_use_1.sound cs_nil)))
    (show ∀ c ∈ ([stock_store_row_1.c] : List Callee'), FunQuiet c.F from cs_cons stock_store_row_1.quiet cs_nil)
theorem stock_Run_1.sound : stock_Run_1.c.ok Tryz.prog := by
  refine ⟨?_, Tryz.f40, stock_Run_1.code, Tryz.func40, rfl, by decide⟩
  have h := fn_sound tt_ok mix_ok (x := stock_Run_1.ann) (ins := stock_Run_1.ins) (outs := stock_Run_1.outs) (N := 36) Tryz.func40 (c := stock_Run_1.code) rfl rfl (by kernel_rfl) (by kernel_rfl) stock_Run_1.ok (by decide)
  rw [stock_Run_1.eq] at h
  exact h

/-! ### wainwright/stock.Take: function 39 -/
noncomputable def stock_Take_1 : ((Bool × Int) × (List (Int × List UInt8)) × (Int × Int) × List (List UInt8) × List (Int × List UInt8)) → Option (((Bool × Int) × (List (Int × List UInt8)) × (Int × Int) × List (List UInt8) × List (Int × List UInt8)) × Int × Int) := fun ((o1b, o1c), o2, (o3c, o3d), o4, o5) =>
  (stock_Run_1 (((o1b, o1c), o2, (o3c, o3d), o4, o5), 1)).bind fun (((r9, r9_2), r9_3, (r9_4, r9_5), r9_6, r9_7), r9_8, r9_9, r9_10) =>
    some (((((r9, r9_2), r9_3, (r9_4, r9_5), r9_6, r9_7), r9_8, r9_10)))

def stock_Take_1.ins : Spec := ⟨15, 0, [.box (.cons (.ref 1) (.cons (.ref 2) .nil)), .box (.cons (.ref 3) (.cons (.v .bool) (.cons (.v I) .nil))), .map I .str, .box (.cons (.ref 4) (.cons (.ref 5) (.cons (.v I) (.cons (.v I) .nil)))), .arr .str, .map I .str], [0], (.cons (.ref 0) .nil)⟩
def stock_Take_1.outs : List Spec := [⟨15, 6, [.box (.cons (.ref 1) (.cons (.ref 2) .nil)), .box (.cons (.ref 3) (.cons (.v .bool) (.cons (.v I) .nil))), .map I .str, .box (.cons (.ref 4) (.cons (.ref 5) (.cons (.v I) (.cons (.v I) .nil)))), .arr .str, .map I .str], [2, 3], (.cons (.v I) (.cons (.v I) .nil))⟩]
noncomputable def stock_Take_1.c : Callee' := ⟨39, mkFits stock_Take_1.ins stock_Take_1.outs, mkFun stock_Take_1.ins stock_Take_1.outs stock_Take_1, mkFun_nat _ _ _⟩
noncomputable def stock_Take_1.ann : Ann :=
  (.seq (.reg []) (.seq (.reg [.std, .call [stock_Run_1.c]]) (.seq (.reg []) .std)))
noncomputable def stock_Take_1.code : Code := match Tryz.f39.body with | some c => c | none => .skip
theorem stock_Take_1.eq : absFn tt 15 stock_Take_1.ins stock_Take_1.outs stock_Take_1.code stock_Take_1.ann = stock_Take_1 := by
  funext a
  kernel_rfl
theorem stock_Take_1.ok : stock_Take_1.ann.ok Tryz.prog 6 15 :=
  ann_ok (by kernel_rfl) (by kernel_rfl) (show ∀ c ∈ ([stock_Run_1.c] : List Callee'), c.ok Tryz.prog from cs_cons stock_Run_1.sound cs_nil)
    (show ∀ c ∈ ([] : List Callee'), FunQuiet c.F from cs_nil)
theorem stock_Take_1.sound : stock_Take_1.c.ok Tryz.prog := by
  refine ⟨?_, Tryz.f39, stock_Take_1.code, Tryz.func39, rfl, by decide⟩
  have h := fn_sound tt_ok mix_ok (x := stock_Take_1.ann) (ins := stock_Take_1.ins) (outs := stock_Take_1.outs) (N := 15) Tryz.func39 (c := stock_Take_1.code) rfl rfl (by kernel_rfl) (by kernel_rfl) stock_Take_1.ok (by decide)
  rw [stock_Take_1.eq] at h
  exact h

/-! ### wainwright/stock.Drop: function 41 -/
noncomputable def stock_Drop_1 : (((Bool × Int) × (List (Int × List UInt8)) × (Int × Int) × List (List UInt8) × List (Int × List UInt8)) × Int) → Option (((Bool × Int) × (List (Int × List UInt8)) × (Int × Int) × List (List UInt8) × List (Int × List UInt8)) × Int) := fun (((o1b, o1c), o2, (o3c, o3d), o4, o5), block1) =>
  (stock_open_1 ((o1b, o1c), o2, (o3c, o3d), o4, o5)).bind fun d => match d with
  | .inl (((r9, r9_2), r9_3, (r9_4, r9_5), r9_6, r9_7), r9_8) =>
    if (r9_8 != 0) = true then
      some (((((r9, r9_2), r9_3, (r9_4, r9_5), r9_6, r9_7), r9_8)))
    else none
  | .inr ((((r9b, r9_2b), r9_3b, (r9_4b, r9_5b), r9_6b, r9_7b, r9_8b, r9_9b, r9_10b, r9_11b), r9_12b)) =>
    if (r9_12b != 0) = true then
      some (((((r9b, r9_2b), r9_3b, (r9_4b, r9_5b), r9_6b, r9_7b), r9_12b)))
    else
      (crown_Owned ((r9_8b, r9_9b, r9_10b), block1)).bind fun r20 =>
        if (!r20) = false then
          (marks_Is (r9_11b, block1)).bind fun r28 =>
            if (!r28) = true then
              some (((((r9b, r9_2b), r9_3b, (r9_4b, r9_5b), r9_6b, r9_7b), 15)))
            else
              (marks_Set (r9_11b, block1, false)).bind fun r37 =>
                (deal_Deal_Write_1 (((r9b, r9_2b), r9_3b, (r9_4b, r9_5b), r9_6b, r9_7b), 42, r37)).bind fun (((r38, r38_2), r38_3, (r38_4, r38_5), r38_6, r38_7), r38_8) =>
                  some (((((r38, r38_2), r38_3, (r38_4, r38_5), r38_6, r38_7), r38_8)))
        else
          some (((((r9b, r9_2b), r9_3b, (r9_4b, r9_5b), r9_6b, r9_7b), 15)))

def stock_Drop_1.ins : Spec := ⟨39, 0, [.box (.cons (.ref 1) (.cons (.ref 2) .nil)), .box (.cons (.ref 3) (.cons (.v .bool) (.cons (.v I) .nil))), .map I .str, .box (.cons (.ref 4) (.cons (.ref 5) (.cons (.v I) (.cons (.v I) .nil)))), .arr .str, .map I .str], [0, 1], (.cons (.ref 0) (.cons (.v I) .nil))⟩
def stock_Drop_1.outs : List Spec := [⟨39, 6, [.box (.cons (.ref 1) (.cons (.ref 2) .nil)), .box (.cons (.ref 3) (.cons (.v .bool) (.cons (.v I) .nil))), .map I .str, .box (.cons (.ref 4) (.cons (.ref 5) (.cons (.v I) (.cons (.v I) .nil)))), .arr .str, .map I .str], [4], (.cons (.v I) .nil)⟩]
noncomputable def stock_Drop_1.c : Callee' := ⟨41, mkFits stock_Drop_1.ins stock_Drop_1.outs, mkFun stock_Drop_1.ins stock_Drop_1.outs stock_Drop_1, mkFun_nat _ _ _⟩
noncomputable def stock_Drop_1.ann : Ann :=
  (.seq (.reg []) (.seq (.reg [.std, .call [stock_open_1.c]]) (.seq (.seq (.reg []) (.cond (.seq (.reg []) .std) .std)) (.seq (.seq (.reg [.std, .std, .std, .std, .std, .callq [crown_Owned.c], .std, .std, .std, .std, .std, .std, .std, .callq [marks_Is.c]]) (.cond (.seq (.reg []) .std) .std)) (.seq (.reg [.std, .std, .std, .std, .std, .std, .callq [marks_Set.c], .call [deal_Deal_Write_1.c]]) .std)))))
noncomputable def stock_Drop_1.code : Code := match Tryz.f41.body with | some c => c | none => .skip
theorem stock_Drop_1.eq : absFn tt 39 stock_Drop_1.ins stock_Drop_1.outs stock_Drop_1.code stock_Drop_1.ann = stock_Drop_1 := by
  funext a
  kernel_rfl
theorem stock_Drop_1.ok : stock_Drop_1.ann.ok Tryz.prog 6 39 :=
  ann_ok (by kernel_rfl) (by kernel_rfl) (show ∀ c ∈ ([stock_open_1.c, crown_Owned.c, marks_Is.c, marks_Set.c, deal_Deal_Write_1.c] : List Callee'), c.ok Tryz.prog from cs_cons stock_open_1.sound (cs_cons crown_Owned.sound (cs_cons marks_Is.sound (cs_cons marks_Set.sound (cs_cons deal_Deal_Write_1.sound cs_nil)))))
    (show ∀ c ∈ ([crown_Owned.c, marks_Is.c, marks_Set.c] : List Callee'), FunQuiet c.F from cs_cons crown_Owned.quiet (cs_cons marks_Is.quiet (cs_cons marks_Set.quiet cs_nil)))
theorem stock_Drop_1.sound : stock_Drop_1.c.ok Tryz.prog := by
  refine ⟨?_, Tryz.f41, stock_Drop_1.code, Tryz.func41, rfl, by decide⟩
  have h := fn_sound tt_ok mix_ok (x := stock_Drop_1.ann) (ins := stock_Drop_1.ins) (outs := stock_Drop_1.outs) (N := 39) Tryz.func41 (c := stock_Drop_1.code) rfl rfl (by kernel_rfl) (by kernel_rfl) stock_Drop_1.ok (by decide)
  rw [stock_Drop_1.eq] at h
  exact h

/-! ### wainwright/wainwrightlaw13.lives: function 34 -/
noncomputable def wainwrightlaw13_lives : Unit → Option (Bool) := fun _ =>
  (wainwrightlaw13_begin (64, [])).bind fun d => match d with
  | .inl _ =>
    some false
  | .inr (.inl (r9b, r9_2b)) =>
    (stock_Free ()).bind fun (r17, r17_2) =>
      (stock_Take ()).bind fun (r25, r25_2) =>
        (stock_Run 3).bind fun (r33, r33_2, r33_3) =>
          if (r17_2 == 0) = true then
            if (r17 == 13) = true then
              if (r25_2 == 0) = true then
                if (r25 == 51) = true then
                  if (r33_3 == 0) = true then
                    if (r33 == 52) = true then
                      if (r33_2 == 3) = true then
                        (stock_Drop 51).bind fun r68 =>
                          some (((r68 == 0)))
                      else
                        some false
                    else
                      some false
                  else
                    some false
                else
                  some false
              else
                some false
            else
              some false
          else
            some false
  | .inr (.inr (((r9c, r9_2c), r9_3c, r9_4c, r9_5c, (r9_6c, r9_7c), r9_8c, r9_9c))) =>
    (stock_Free_1 ((r9c, r9_2c), r9_3c, (r9_6c, r9_7c), r9_8c, r9_9c)).bind fun (((r17a, r17a_2), r17a_3, (r17a_4, r17a_5), r17a_6, r17a_7), r17a_8, r17a_9) =>
      (stock_Take_1 ((r17a, r17a_2), r17a_3, (r17a_4, r17a_5), r17a_6, r17a_7)).bind fun (((r25a, r25a_2), r25a_3, (r25a_4, r25a_5), r25a_6, r25a_7), r25a_8, r25a_9) =>
        (stock_Run_1 (((r25a, r25a_2), r25a_3, (r25a_4, r25a_5), r25a_6, r25a_7), 3)).bind fun (((r33a, r33a_2), r33a_3, (r33a_4, r33a_5), r33a_6, r33a_7), r33a_8, r33a_9, r33a_10) =>
          if (r17a_9 == 0) = true then
            if (r17a_8 == 13) = true then
              if (r25a_9 == 0) = true then
                if (r25a_8 == 51) = true then
                  if (r33a_10 == 0) = true then
                    if (r33a_8 == 52) = true then
                      if (r33a_9 == 3) = true then
                        (stock_Drop_1 (((r33a, r33a_2), r33a_3, (r33a_4, r33a_5), r33a_6, r33a_7), 51)).bind fun (((r68a, r68a_2), r68a_3, (r68a_4, r68a_5), r68a_6, r68a_7), r68a_8) =>
                          some (((r68a_8 == 0)))
                      else
                        some false
                    else
                      some false
                  else
                    some false
                else
                  some false
              else
                some false
            else
              some false
          else
            some false

def wainwrightlaw13_lives.ins : Spec := ⟨71, 0, [], [], .nil⟩
def wainwrightlaw13_lives.outs : List Spec := [⟨71, 0, [], [0], (.cons (.v .bool) .nil)⟩]
noncomputable def wainwrightlaw13_lives.c : Callee' := ⟨34, mkFits wainwrightlaw13_lives.ins wainwrightlaw13_lives.outs, mkFun wainwrightlaw13_lives.ins wainwrightlaw13_lives.outs wainwrightlaw13_lives, mkFun_nat _ _ _⟩
theorem wainwrightlaw13_lives.quiet : FunQuiet wainwrightlaw13_lives.c.F := mkFun_quiet rfl rfl
noncomputable def wainwrightlaw13_lives.ann : Ann :=
  (.seq (.reg []) (.seq (.reg [.call [wainwrightlaw13_begin.c]]) (.seq (.seq (.reg [.std, .obj .bool]) (.cond (.seq (.reg []) .std) .std)) (.seq (.reg [.std, .std, .std, .std, .call [stock_Free.c, stock_Free_1.c]]) (.seq (.reg [.std, .std, .std, .std, .call [stock_Take.c, stock_Take_1.c]]) (.seq (.reg [.std, .std, .std, .std, .call [stock_Run.c, stock_Run_1.c]]) (.seq (.reg [.std, .std, .std, .std, .std, .std, .std, .std, .std, .std, .std, .std, .std, .std, .std, .std, .std, .std, .std, .std, .std, .std, .std, .std, .std, .std, .std, .std, .std, .std, .std, .call [stock_Drop.c, stock_Drop_1.c]]) .std)))))))
noncomputable def wainwrightlaw13_lives.code : Code := match Tryz.f34.body with | some c => c | none => .skip
theorem wainwrightlaw13_lives.eq : absFn tt 71 wainwrightlaw13_lives.ins wainwrightlaw13_lives.outs wainwrightlaw13_lives.code wainwrightlaw13_lives.ann = wainwrightlaw13_lives := by
  funext a
  kernel_rfl
theorem wainwrightlaw13_lives.ok : wainwrightlaw13_lives.ann.ok Tryz.prog 0 71 :=
  ann_ok (by kernel_rfl) (by kernel_rfl) (show ∀ c ∈ ([wainwrightlaw13_begin.c, stock_Free.c, stock_Free_1.c, stock_Take.c, stock_Take_1.c, stock_Run.c, stock_Run_1.c, stock_Drop.c, stock_Drop_1.c] : List Callee'), c.ok Tryz.prog from cs_cons wainwrightlaw13_begin.sound (cs_cons stock_Free.sound (cs_cons stock_Free_1.sound (cs_cons stock_Take.sound (cs_cons stock_Take_1.sound (cs_cons stock_Run.sound (cs_cons stock_Run_1.sound (cs_cons stock_Drop.sound (cs_cons stock_Drop_1.sound cs_nil)))))))))
    (show ∀ c ∈ ([] : List Callee'), FunQuiet c.F from cs_nil)
theorem wainwrightlaw13_lives.sound : wainwrightlaw13_lives.c.ok Tryz.prog := by
  refine ⟨?_, Tryz.f34, wainwrightlaw13_lives.code, Tryz.func34, rfl, by decide⟩
  have h := fn_sound tt_ok mix_ok (x := wainwrightlaw13_lives.ann) (ins := wainwrightlaw13_lives.ins) (outs := wainwrightlaw13_lives.outs) (N := 71) Tryz.func34 (c := wainwrightlaw13_lives.code) rfl rfl (by kernel_rfl) (by kernel_rfl) wainwrightlaw13_lives.ok (by decide)
  rw [wainwrightlaw13_lives.eq] at h
  exact h

/-! ### wainwright/wainwrightlaw13.size: function 35 -/
noncomputable def wainwrightlaw13_size : Int → Option (Int) := fun n0 =>
  some ((IntKind.i64.wrap (64 + (IntKind.i64.wrap (Int.tmod (IntKind.u64.wrap (n0)) 337)))))

def wainwrightlaw13_size.ins : Spec := ⟨8, 0, [], [0], (.cons (.v I) .nil)⟩
def wainwrightlaw13_size.outs : List Spec := [⟨8, 0, [], [2], (.cons (.v I) .nil)⟩]
noncomputable def wainwrightlaw13_size.c : Callee' := ⟨35, mkFits wainwrightlaw13_size.ins wainwrightlaw13_size.outs, mkFun wainwrightlaw13_size.ins wainwrightlaw13_size.outs wainwrightlaw13_size, mkFun_nat _ _ _⟩
theorem wainwrightlaw13_size.quiet : FunQuiet wainwrightlaw13_size.c.F := mkFun_quiet rfl rfl
noncomputable def wainwrightlaw13_size.ann : Ann :=
  (.seq (.reg []) (.seq (.reg []) .std))
noncomputable def wainwrightlaw13_size.code : Code := match Tryz.f35.body with | some c => c | none => .skip
theorem wainwrightlaw13_size.eq : absFn tt 8 wainwrightlaw13_size.ins wainwrightlaw13_size.outs wainwrightlaw13_size.code wainwrightlaw13_size.ann = wainwrightlaw13_size := by
  funext a
  kernel_rfl
theorem wainwrightlaw13_size.ok : wainwrightlaw13_size.ann.ok Tryz.prog 0 8 :=
  ann_ok (by kernel_rfl) (by kernel_rfl) (show ∀ c ∈ ([] : List Callee'), c.ok Tryz.prog from cs_nil)
    (show ∀ c ∈ ([] : List Callee'), FunQuiet c.F from cs_nil)
theorem wainwrightlaw13_size.sound : wainwrightlaw13_size.c.ok Tryz.prog := by
  refine ⟨?_, Tryz.f35, wainwrightlaw13_size.code, Tryz.func35, rfl, by decide⟩
  have h := fn_sound tt_ok mix_ok (x := wainwrightlaw13_size.ann) (ins := wainwrightlaw13_size.ins) (outs := wainwrightlaw13_size.outs) (N := 8) Tryz.func35 (c := wainwrightlaw13_size.code) rfl rfl (by kernel_rfl) (by kernel_rfl) wainwrightlaw13_size.ok (by decide)
  rw [wainwrightlaw13_size.eq] at h
  exact h

/-! ### wainwright/wainwrightlaw13.early: function 37 -/
noncomputable def wainwrightlaw13_early : (List (Int × Int)) → Option (List (Int × Int)) := fun l0 =>
  if 0 ≤ (if 60 < (l0.length : Int) then 60 else (l0.length : Int)) ∧ (if 60 < (l0.length : Int) then 60 else (l0.length : Int)) ≤ (l0.length : Int) then
    some ((l0.take ((if 60 < (l0.length : Int) then 60 else (l0.length : Int))).toNat))
  else none

def wainwrightlaw13_early.ins : Spec := ⟨8, 0, [], [0], (.cons (.v (.sl (.st (.pair I I)))) .nil)⟩
def wainwrightlaw13_early.outs : List Spec := [⟨8, 0, [], [2], (.cons (.v (.sl (.st (.pair I I)))) .nil)⟩]
noncomputable def wainwrightlaw13_early.c : Callee' := ⟨37, mkFits wainwrightlaw13_early.ins wainwrightlaw13_early.outs, mkFun wainwrightlaw13_early.ins wainwrightlaw13_early.outs wainwrightlaw13_early, mkFun_nat _ _ _⟩
theorem wainwrightlaw13_early.quiet : FunQuiet wainwrightlaw13_early.c.F := mkFun_quiet rfl rfl
noncomputable def wainwrightlaw13_early.ann : Ann :=
  (.seq (.reg []) (.seq (.reg []) .std))
noncomputable def wainwrightlaw13_early.code : Code := match Tryz.f37.body with | some c => c | none => .skip
theorem wainwrightlaw13_early.eq : absFn tt 8 wainwrightlaw13_early.ins wainwrightlaw13_early.outs wainwrightlaw13_early.code wainwrightlaw13_early.ann = wainwrightlaw13_early := by
  funext a
  kernel_rfl
theorem wainwrightlaw13_early.ok : wainwrightlaw13_early.ann.ok Tryz.prog 0 8 :=
  ann_ok (by kernel_rfl) (by kernel_rfl) (show ∀ c ∈ ([] : List Callee'), c.ok Tryz.prog from cs_nil)
    (show ∀ c ∈ ([] : List Callee'), FunQuiet c.F from cs_nil)
theorem wainwrightlaw13_early.sound : wainwrightlaw13_early.c.ok Tryz.prog := by
  refine ⟨?_, Tryz.f37, wainwrightlaw13_early.code, Tryz.func37, rfl, by decide⟩
  have h := fn_sound tt_ok mix_ok (x := wainwrightlaw13_early.ann) (ins := wainwrightlaw13_early.ins) (outs := wainwrightlaw13_early.outs) (N := 8) Tryz.func37 (c := wainwrightlaw13_early.code) rfl rfl (by kernel_rfl) (by kernel_rfl) wainwrightlaw13_early.ok (by decide)
  rw [wainwrightlaw13_early.eq] at h
  exact h

/-! ### (wainwright/wainwrightlaw13.Op).kind: function 38 -/
noncomputable def wainwrightlaw13_Op_kind : (Int × Int) → Option (Int) := fun ov0 =>
  some ((IntKind.i64.wrap (Int.tmod (IntKind.u64.wrap (ov0.1)) 4)))

def wainwrightlaw13_Op_kind.ins : Spec := ⟨8, 0, [], [0], (.cons (.v (.st (.pair I I))) .nil)⟩
def wainwrightlaw13_Op_kind.outs : List Spec := [⟨8, 0, [], [2], (.cons (.v I) .nil)⟩]
noncomputable def wainwrightlaw13_Op_kind.c : Callee' := ⟨38, mkFits wainwrightlaw13_Op_kind.ins wainwrightlaw13_Op_kind.outs, mkFun wainwrightlaw13_Op_kind.ins wainwrightlaw13_Op_kind.outs wainwrightlaw13_Op_kind, mkFun_nat _ _ _⟩
theorem wainwrightlaw13_Op_kind.quiet : FunQuiet wainwrightlaw13_Op_kind.c.F := mkFun_quiet rfl rfl
noncomputable def wainwrightlaw13_Op_kind.ann : Ann :=
  (.seq (.reg []) (.seq (.reg []) .std))
noncomputable def wainwrightlaw13_Op_kind.code : Code := match Tryz.f38.body with | some c => c | none => .skip
theorem wainwrightlaw13_Op_kind.eq : absFn tt 8 wainwrightlaw13_Op_kind.ins wainwrightlaw13_Op_kind.outs wainwrightlaw13_Op_kind.code wainwrightlaw13_Op_kind.ann = wainwrightlaw13_Op_kind := by
  funext a
  kernel_rfl
theorem wainwrightlaw13_Op_kind.ok : wainwrightlaw13_Op_kind.ann.ok Tryz.prog 0 8 :=
  ann_ok (by kernel_rfl) (by kernel_rfl) (show ∀ c ∈ ([] : List Callee'), c.ok Tryz.prog from cs_nil)
    (show ∀ c ∈ ([] : List Callee'), FunQuiet c.F from cs_nil)
theorem wainwrightlaw13_Op_kind.sound : wainwrightlaw13_Op_kind.c.ok Tryz.prog := by
  refine ⟨?_, Tryz.f38, wainwrightlaw13_Op_kind.code, Tryz.func38, rfl, by decide⟩
  have h := fn_sound tt_ok mix_ok (x := wainwrightlaw13_Op_kind.ann) (ins := wainwrightlaw13_Op_kind.ins) (outs := wainwrightlaw13_Op_kind.outs) (N := 8) Tryz.func38 (c := wainwrightlaw13_Op_kind.code) rfl rfl (by kernel_rfl) (by kernel_rfl) wainwrightlaw13_Op_kind.ok (by decide)
  rw [wainwrightlaw13_Op_kind.eq] at h
  exact h

/-! ### wainwright/wainwrightref01.Read: function 136 -/
noncomputable def wainwrightref01_Read.l2 : (List Int × List Int × List UInt8 × Int × Int × Int × Int) → Option ((List Int × List Int × List UInt8 × Int × Int × Int × Int) ⊕ (List Int × List Int × List UInt8 × Int × Int × Int)) := fun (out6, widths0, s1, at7, i8, v9, k10) =>
  if decide (k10 ≥ 0) = true then
    if 0 ≤ IntKind.i64.wrap (at7 + k10) ∧ IntKind.i64.wrap (at7 + k10) < (s1.length : Int) then
      some (.inl ((out6, widths0, s1, at7, i8, IntKind.i64.wrap ((IntKind.i64.wrap (256 * v9)) + (IntKind.i64.wrap (((s1.getD ((IntKind.i64.wrap (at7 + k10)).toNat) 0).toNat : Int)))), IntKind.i64.wrap (k10 - 1))))
    else none
  else
    some (.inr (((out6, widths0, s1, at7, i8, v9))))

noncomputable def wainwrightref01_Read.l1 : (List Int × List Int × List UInt8 × Int × Int) → Option ((List Int × List Int × List UInt8 × Int × Int) ⊕ (List Int)) := fun (out6, widths0, s1, at7, i8) =>
  if decide (i8 < (widths0.length : Int)) = true then
    if 0 ≤ i8 ∧ i8 < (widths0.length : Int) then
      (loopO wainwrightref01_Read.l2 ((out6, widths0, s1, at7, i8, 0, IntKind.i64.wrap ((widths0.getD i8.toNat 0) - 1)))).bind fun (out6, widths0, s1, at7, i8, v9) =>
        if roomOk (out6.length + (([v9] : List Int)).length) 8 then
          if 0 ≤ i8 ∧ i8 < (widths0.length : Int) then
            some (.inl ((out6 ++ (([v9] : List Int)), widths0, s1, IntKind.i64.wrap (at7 + (widths0.getD i8.toNat 0)), IntKind.i64.wrap (i8 + 1))))
          else none
        else none
    else none
  else
    some (.inr out6)

noncomputable def wainwrightref01_Read : (List Int × List UInt8) → Option (List Int × Int) := fun (widths0, s1) =>
  (wainwrightref01_Size widths0).bind fun r12 =>
    if decide (r12 < 0) = true then
      some (((([] : List Int), 1)))
    else
      (wainwrightref01_Size widths0).bind fun r17 =>
        if decide ((s1.length : Int) < r17) = true then
          some (((([] : List Int), 2)))
        else
          (loopO wainwrightref01_Read.l1 (([], widths0, s1, 0, 0))).bind fun out6 =>
            some (((out6, 0)))

def wainwrightref01_Read.ins : Spec := ⟨54, 0, [], [0, 1], (.cons (.v (.sl I)) (.cons (.v .str) .nil))⟩
def wainwrightref01_Read.outs : List Spec := [⟨54, 0, [], [4, 5], (.cons (.v (.sl I)) (.cons (.v I) .nil))⟩]
noncomputable def wainwrightref01_Read.c : Callee' := ⟨136, mkFits wainwrightref01_Read.ins wainwrightref01_Read.outs, mkFun wainwrightref01_Read.ins wainwrightref01_Read.outs wainwrightref01_Read, mkFun_nat _ _ _⟩
theorem wainwrightref01_Read.quiet : FunQuiet wainwrightref01_Read.c.F := mkFun_quiet rfl rfl
noncomputable def wainwrightref01_Read.ann : Ann :=
  (.seq (.reg []) (.seq (.seq (.reg [.std, .callq [wainwrightref01_Size.c]]) (.cond (.seq (.reg []) .std) .std)) (.seq (.seq (.reg [.std, .std, .std, .callq [wainwrightref01_Size.c]]) (.cond (.seq (.reg []) .std) .std)) (.seq (.reg []) (.seq (.reg []) (.seq (.seq (.reg []) (.block (.loop ⟨54, 0, [.arr I], [0, 1, 6, 7, 8], (.cons (.v (.sl I)) (.cons (.v .str) (.cons (.ref 0) (.cons (.v I) (.cons (.v I) .nil)))))⟩ [(.exit 0, ⟨54, 0, [.arr I], [6], (.cons (.ref 0) .nil)⟩)]
  (.seq (.seq (.reg []) (.cond .std .std)) (.seq (.block (.seq (.reg []) (.seq (.seq (.reg []) (.block (.loop ⟨54, 0, [.arr I], [0, 1, 6, 7, 8, 9, 10], (.cons (.v (.sl I)) (.cons (.v .str) (.cons (.ref 0) (.cons (.v I) (.cons (.v I) (.cons (.v I) (.cons (.v I) .nil)))))))⟩ [(.exit 2, ⟨54, 0, [.arr I], [0, 1, 6, 7, 8, 9], (.cons (.v (.sl I)) (.cons (.v .str) (.cons (.ref 0) (.cons (.v I) (.cons (.v I) (.cons (.v I) .nil))))))⟩)]
  (.seq (.seq (.reg []) (.cond .std .std)) (.seq (.block (.reg [])) (.reg [])))))) (.seq (.reg [.std, .std, .inl I, .obj I]) (.reg []))))) (.reg [])))))) (.seq (.reg []) .std)))))))
noncomputable def wainwrightref01_Read.code : Code := match Tryz.f136.body with | some c => c | none => .skip
theorem wainwrightref01_Read.eq : absFn tt 54 wainwrightref01_Read.ins wainwrightref01_Read.outs wainwrightref01_Read.code wainwrightref01_Read.ann = wainwrightref01_Read := by
  funext a
  kernel_rfl
theorem wainwrightref01_Read.ok : wainwrightref01_Read.ann.ok Tryz.prog 0 54 :=
  ann_ok (by kernel_rfl) (by kernel_rfl) (show ∀ c ∈ ([wainwrightref01_Size.c, wainwrightref01_Size.c] : List Callee'), c.ok Tryz.prog from cs_cons wainwrightref01_Size.sound (cs_cons wainwrightref01_Size.sound cs_nil))
    (show ∀ c ∈ ([wainwrightref01_Size.c, wainwrightref01_Size.c] : List Callee'), FunQuiet c.F from cs_cons wainwrightref01_Size.quiet (cs_cons wainwrightref01_Size.quiet cs_nil))
theorem wainwrightref01_Read.sound : wainwrightref01_Read.c.ok Tryz.prog := by
  refine ⟨?_, Tryz.f136, wainwrightref01_Read.code, Tryz.func136, rfl, by decide⟩
  have h := fn_sound tt_ok mix_ok (x := wainwrightref01_Read.ann) (ins := wainwrightref01_Read.ins) (outs := wainwrightref01_Read.outs) (N := 54) Tryz.func136 (c := wainwrightref01_Read.code) rfl rfl (by kernel_rfl) (by kernel_rfl) wainwrightref01_Read.ok (by decide)
  rw [wainwrightref01_Read.eq] at h
  exact h

/-! ### wainwright/wainwrightref10.Read: function 160 -/
noncomputable def wainwrightref10_Read : List UInt8 → Option ((Int × Int × Int) × Int) := fun s0 =>
  if ((s0.length : Int) != 128) = true then
    some ((((0, 0, 0), 15)))
  else
    if 0 ≤ (10 : Int) ∧ (10 : Int) ≤ (s0.length : Int) then
      (wainwrightref01_Read (([1, 2, 1] : List Int), s0.drop 10)).bind fun (r17, r17_2) =>
        if 0 ≤ (0 : Int) ∧ (0 : Int) < (r17.length : Int) then
          if 0 ≤ (1 : Int) ∧ (1 : Int) < (r17.length : Int) then
            if 0 ≤ (2 : Int) ∧ (2 : Int) < (r17.length : Int) then
              (wainwrightref10_Write (r17.getD 0 0, r17.getD 1 0, r17.getD 2 0)).bind fun (r32, r32_2) =>
                if (r32_2 != 0) = false then
                  if (!(r32 == s0)) = true then
                    some ((((0, 0, 0), 15)))
                  else
                    some ((((r17.getD 0 0, r17.getD 1 0, r17.getD 2 0), 0)))
                else
                  some ((((0, 0, 0), 15)))
            else none
          else none
        else none
    else none

def wainwrightref10_Read.ins : Spec := ⟨44, 0, [], [0], (.cons (.v .str) .nil)⟩
def wainwrightref10_Read.outs : List Spec := [⟨45, 0, [], [44, 3], (.cons (.v (.st (.pair I (.pair I I)))) (.cons (.v I) .nil))⟩]
noncomputable def wainwrightref10_Read.c : Callee' := ⟨160, mkFits wainwrightref10_Read.ins wainwrightref10_Read.outs, mkFun wainwrightref10_Read.ins wainwrightref10_Read.outs wainwrightref10_Read, mkFun_nat _ _ _⟩
theorem wainwrightref10_Read.quiet : FunQuiet wainwrightref10_Read.c.F := mkFun_quiet rfl rfl
noncomputable def wainwrightref10_Read.ann : Ann :=
  (.seq (.reg []) (.seq (.seq (.reg []) (.cond (.seq (.reg []) .std) .std)) (.seq (.reg [.inl I, .std, .std, .callq [wainwrightref01_Read.c]]) (.seq (.drw []) (.seq (.reg [.std, .callq [wainwrightref10_Write.c]]) (.seq (.seq (.reg []) (.cond (.seq (.reg []) .std) .std)) (.seq (.reg []) .std)))))))
noncomputable def wainwrightref10_Read.code : Code := match Tryz.f160.body with | some c => c | none => .skip
theorem wainwrightref10_Read.eq : absFnR tt 44 [(2, 81)] wainwrightref10_Read.ins wainwrightref10_Read.outs wainwrightref10_Read.code wainwrightref10_Read.ann = wainwrightref10_Read := by
  funext a
  kernel_rfl
theorem wainwrightref10_Read.ok : wainwrightref10_Read.ann.ok Tryz.prog 0 44 :=
  ann_ok (by kernel_rfl) (by kernel_rfl) (show ∀ c ∈ ([wainwrightref01_Read.c, wainwrightref10_Write.c] : List Callee'), c.ok Tryz.prog from cs_cons wainwrightref01_Read.sound (cs_cons wainwrightref10_Write.sound cs_nil))
    (show ∀ c ∈ ([wainwrightref01_Read.c, wainwrightref10_Write.c] : List Callee'), FunQuiet c.F from cs_cons wainwrightref01_Read.quiet (cs_cons wainwrightref10_Write.quiet cs_nil))
theorem wainwrightref10_Read.sound : wainwrightref10_Read.c.ok Tryz.prog := by
  refine ⟨?_, Tryz.f160, wainwrightref10_Read.code, Tryz.func160, rfl, by decide⟩
  have h := fn_soundR tt_ok mix_ok (x := wainwrightref10_Read.ann) (ins := wainwrightref10_Read.ins) (outs := wainwrightref10_Read.outs) (N := 44) (cells := [(2, 81)]) Tryz.func160 (c := wainwrightref10_Read.code) rfl rfl (by kernel_rfl) (by kernel_rfl) (by kernel_rfl) wainwrightref10_Read.ok (by decide)
  rw [wainwrightref10_Read.eq] at h
  exact h

/-! ### (*wainwright/wainwrightref12.Deal).Crown: function 114 -/
noncomputable def wainwrightref12_Deal_Crown : (List (List UInt8) × List (List UInt8)) → Option ((Int × Int × Int) × Int) := fun d0 =>
  if 0 ≤ (0 : Int) ∧ (0 : Int) < (d0.2.length : Int) then
    (wainwrightref10_Read (d0.2.getD 0 [])).bind fun (r13, r13_2) =>
      if (r13_2 != 0) = false then
        if decide (r13.2.1 > (d0.2.length : Int)) = true then
          some ((((0, 0, 0), 15)))
        else
          some ((((r13.1, r13.2.1, r13.2.2), 0)))
      else
        some ((((0, 0, 0), 15)))
  else none

def wainwrightref12_Deal_Crown.ins : Spec := ⟨30, 0, [], [0], (.cons (.v (.ptr (.pair (.sl .str) (.sl .str)))) .nil)⟩
def wainwrightref12_Deal_Crown.outs : List Spec := [⟨31, 0, [], [30, 3], (.cons (.v (.st (.pair I (.pair I I)))) (.cons (.v I) .nil))⟩]
noncomputable def wainwrightref12_Deal_Crown.c : Callee' := ⟨114, mkFits wainwrightref12_Deal_Crown.ins wainwrightref12_Deal_Crown.outs, mkFun wainwrightref12_Deal_Crown.ins wainwrightref12_Deal_Crown.outs wainwrightref12_Deal_Crown, mkFun_nat _ _ _⟩
theorem wainwrightref12_Deal_Crown.quiet : FunQuiet wainwrightref12_Deal_Crown.c.F := mkFun_quiet rfl rfl
noncomputable def wainwrightref12_Deal_Crown.ann : Ann :=
  (.seq (.reg []) (.seq (.reg [.std, .std, .std, .std, .std, .std, .callq [wainwrightref10_Read.c]]) (.seq (.seq (.drw []) (.cond (.seq (.reg []) .std) .std)) (.seq (.reg []) .std))))
noncomputable def wainwrightref12_Deal_Crown.code : Code := match Tryz.f114.body with | some c => c | none => .skip
theorem wainwrightref12_Deal_Crown.eq : absFnR tt 30 [(2, 81)] wainwrightref12_Deal_Crown.ins wainwrightref12_Deal_Crown.outs wainwrightref12_Deal_Crown.code wainwrightref12_Deal_Crown.ann = wainwrightref12_Deal_Crown := by
  funext a
  kernel_rfl
theorem wainwrightref12_Deal_Crown.ok : wainwrightref12_Deal_Crown.ann.ok Tryz.prog 0 30 :=
  ann_ok (by kernel_rfl) (by kernel_rfl) (show ∀ c ∈ ([wainwrightref10_Read.c] : List Callee'), c.ok Tryz.prog from cs_cons wainwrightref10_Read.sound cs_nil)
    (show ∀ c ∈ ([wainwrightref10_Read.c] : List Callee'), FunQuiet c.F from cs_cons wainwrightref10_Read.quiet cs_nil)
theorem wainwrightref12_Deal_Crown.sound : wainwrightref12_Deal_Crown.c.ok Tryz.prog := by
  refine ⟨?_, Tryz.f114, wainwrightref12_Deal_Crown.code, Tryz.func114, rfl, by decide⟩
  have h := fn_soundR tt_ok mix_ok (x := wainwrightref12_Deal_Crown.ann) (ins := wainwrightref12_Deal_Crown.ins) (outs := wainwrightref12_Deal_Crown.outs) (N := 30) (cells := [(2, 81)]) Tryz.func114 (c := wainwrightref12_Deal_Crown.code) rfl rfl (by kernel_rfl) (by kernel_rfl) (by kernel_rfl) wainwrightref12_Deal_Crown.ok (by decide)
  rw [wainwrightref12_Deal_Crown.eq] at h
  exact h

/-! ### wainwright/wainwrightref03.Run: function 145 -/
noncomputable def wainwrightref03_Run.l2 : (List UInt8 × Int × Int × Int × Bool × Int) → Option ((List UInt8 × Int × Int × Int × Bool × Int) ⊕ (List UInt8 × Int × Int × Int × Bool)) := fun (m0, n2, length3, i10, free11, k12) =>
  if decide (k12 < length3) = true then
    if free11 = true then
      (wainwrightref03_Is (m0, IntKind.i64.wrap (i10 + k12))).bind fun r48 =>
        some (.inl ((m0, n2, length3, i10, (!r48), IntKind.i64.wrap (k12 + 1))))
    else
      some (.inr (((m0, n2, length3, i10, free11))))
  else
    some (.inr (((m0, n2, length3, i10, free11))))

noncomputable def wainwrightref03_Run.l1 : (List UInt8 × Int × Int × Int) → Option ((List UInt8 × Int × Int × Int) ⊕ (Unit ⊕ (Int × Bool))) := fun (m0, n2, length3, i10) =>
  if decide (i10 ≤ IntKind.i64.wrap (n2 - length3)) = true then
    if decide (i10 < IntKind.i64.wrap (8 * (m0.length : Int))) = true then
      (loopO wainwrightref03_Run.l2 ((m0, n2, length3, i10, true, 0))).bind fun (m0, n2, length3, i10, free11) =>
        if free11 = true then
          some (.inr (.inr (((i10, true)))))
        else
          some (.inl ((m0, n2, length3, IntKind.i64.wrap (i10 + 1))))
    else
      some (.inr (.inl ()))
  else
    some (.inr (.inl ()))

noncomputable def wainwrightref03_Run : (List UInt8 × Int × Int × Int) → Option (Int × Bool) := fun (m0, from1, n2, length3) =>
  if decide (length3 < 1) = false then
    if decide (n2 < length3) = true then
      some (((0, false)))
    else
      (loopO wainwrightref03_Run.l1 ((m0, n2, length3, (if 0 > from1 then 0 else from1)))).bind fun d => match d with
      | .inl _ =>
        some (((0, false)))
      | .inr ((t8, t9)) =>
        some (((t8, t9)))
  else
    some (((0, false)))

def wainwrightref03_Run.ins : Spec := ⟨52, 0, [], [0, 1, 2, 3], (.cons (.v .str) (.cons (.v I) (.cons (.v I) (.cons (.v I) .nil))))⟩
def wainwrightref03_Run.outs : List Spec := [⟨52, 0, [], [8, 9], (.cons (.v I) (.cons (.v .bool) .nil))⟩]
noncomputable def wainwrightref03_Run.c : Callee' := ⟨145, mkFits wainwrightref03_Run.ins wainwrightref03_Run.outs, mkFun wainwrightref03_Run.ins wainwrightref03_Run.outs wainwrightref03_Run, mkFun_nat _ _ _⟩
theorem wainwrightref03_Run.quiet : FunQuiet wainwrightref03_Run.c.F := mkFun_quiet rfl rfl
noncomputable def wainwrightref03_Run.ann : Ann :=
  (.seq (.reg []) (.seq (.seq (.reg []) (.cond (.seq (.reg []) .std) .std)) (.seq (.seq (.reg []) (.block (.loop ⟨52, 0, [], [0, 2, 3, 10], (.cons (.v .str) (.cons (.v I) (.cons (.v I) (.cons (.v I) .nil))))⟩ [(.exit 0, ⟨52, 0, [], [], .nil⟩), (.ret, ⟨52, 0, [], [8, 9], (.cons (.v I) (.cons (.v .bool) .nil))⟩)]
  (.seq (.seq (.reg []) (.cond .std .std)) (.seq (.block (.seq (.reg []) (.seq (.seq (.reg []) (.block (.loop ⟨52, 0, [], [0, 2, 3, 10, 11, 12], (.cons (.v .str) (.cons (.v I) (.cons (.v I) (.cons (.v I) (.cons (.v .bool) (.cons (.v I) .nil))))))⟩ [(.exit 2, ⟨52, 0, [], [0, 2, 3, 10, 11], (.cons (.v .str) (.cons (.v I) (.cons (.v I) (.cons (.v I) (.cons (.v .bool) .nil)))))⟩)]
  (.seq (.seq (.reg []) (.cond .std .std)) (.seq (.block (.reg [.std, .std, .std, .std, .callq [wainwrightref03_Is.c]])) (.reg [])))))) (.seq (.reg []) (.cond (.seq (.reg []) .std) .std))))) (.reg [])))))) (.seq (.reg []) .std))))
noncomputable def wainwrightref03_Run.code : Code := match Tryz.f145.body with | some c => c | none => .skip
theorem wainwrightref03_Run.eq : absFn tt 52 wainwrightref03_Run.ins wainwrightref03_Run.outs wainwrightref03_Run.code wainwrightref03_Run.ann = wainwrightref03_Run := by
  funext a
  kernel_rfl
theorem wainwrightref03_Run.ok : wainwrightref03_Run.ann.ok Tryz.prog 0 52 :=
  ann_ok (by kernel_rfl) (by kernel_rfl) (show ∀ c ∈ ([wainwrightref03_Is.c] : List Callee'), c.ok Tryz.prog from cs_cons wainwrightref03_Is.sound cs_nil)
    (show ∀ c ∈ ([wainwrightref03_Is.c] : List Callee'), FunQuiet c.F from cs_cons wainwrightref03_Is.quiet cs_nil)
theorem wainwrightref03_Run.sound : wainwrightref03_Run.c.ok Tryz.prog := by
  refine ⟨?_, Tryz.f145, wainwrightref03_Run.code, Tryz.func145, rfl, by decide⟩
  have h := fn_sound tt_ok mix_ok (x := wainwrightref03_Run.ann) (ins := wainwrightref03_Run.ins) (outs := wainwrightref03_Run.outs) (N := 52) Tryz.func145 (c := wainwrightref03_Run.code) rfl rfl (by kernel_rfl) (by kernel_rfl) wainwrightref03_Run.ok (by decide)
  rw [wainwrightref03_Run.eq] at h
  exact h

/-! ### wainwright/wainwrightref13.use: function 146 -/
noncomputable def wainwrightref13_use : ((List (List UInt8) × List (List UInt8)) × Int) → Option (List (List UInt8) × List (List UInt8)) := fun ((o1, o2), i1) =>
  if 0 ≤ (42 : Int) ∧ (42 : Int) < (o2.length : Int) then
    (wainwrightref03_Set (o2.getD 42 [], i1, true)).bind fun r15 =>
      if 0 ≤ (42 : Int) ∧ (42 : Int) < (o2.length : Int) then
        (wainwrightref12_Deal_Write ((o1, o2.set 42 r15), i1, [])).bind fun ((r19, r19_2), r19_3) =>
          some (((r19, r19_2)))
      else none
  else none

def wainwrightref13_use.ins : Spec := ⟨20, 0, [.box (.cons (.ref 1) (.cons (.ref 2) .nil)), .arr .str, .arr .str], [0, 1], (.cons (.ref 0) (.cons (.v I) .nil))⟩
def wainwrightref13_use.outs : List Spec := [⟨20, 3, [.box (.cons (.ref 1) (.cons (.ref 2) .nil)), .arr .str, .arr .str], [], .nil⟩]
noncomputable def wainwrightref13_use.c : Callee' := ⟨146, mkFits wainwrightref13_use.ins wainwrightref13_use.outs, mkFun wainwrightref13_use.ins wainwrightref13_use.outs wainwrightref13_use, mkFun_nat _ _ _⟩
noncomputable def wainwrightref13_use.ann : Ann :=
  (.seq (.drw [.std, .std, .std, .std, .std, .std, .std, .std, .std, .std, .std, .callq [wainwrightref03_Set.c]]) (.reg [.std, .std, .call [wainwrightref12_Deal_Write.c]]))
noncomputable def wainwrightref13_use.code : Code := match Tryz.f146.body with | some c => c | none => .skip
theorem wainwrightref13_use.eq : absFn tt 20 wainwrightref13_use.ins wainwrightref13_use.outs wainwrightref13_use.code wainwrightref13_use.ann = wainwrightref13_use := by
  funext a
  kernel_rfl
theorem wainwrightref13_use.ok : wainwrightref13_use.ann.ok Tryz.prog 3 20 :=
  ann_ok (by kernel_rfl) (by kernel_rfl) (show ∀ c ∈ ([wainwrightref03_Set.c, wainwrightref12_Deal_Write.c] : List Callee'), c.ok Tryz.prog from cs_cons wainwrightref03_Set.sound (cs_cons wainwrightref12_Deal_Write.sound cs_nil))
    (show ∀ c ∈ ([wainwrightref03_Set.c] : List Callee'), FunQuiet c.F from cs_cons wainwrightref03_Set.quiet cs_nil)
theorem wainwrightref13_use.sound : wainwrightref13_use.c.ok Tryz.prog := by
  refine ⟨?_, Tryz.f146, wainwrightref13_use.code, Tryz.func146, rfl, by decide⟩
  have h := fn_sound tt_ok mix_ok (x := wainwrightref13_use.ann) (ins := wainwrightref13_use.ins) (outs := wainwrightref13_use.outs) (N := 20) Tryz.func146 (c := wainwrightref13_use.code) rfl rfl (by kernel_rfl) (by kernel_rfl) wainwrightref13_use.ok (by decide)
  rw [wainwrightref13_use.eq] at h
  exact h

/-! ### wainwright/wainwrightref13.Run: function 98 -/
noncomputable def wainwrightref13_Run.l1 : ((List (List UInt8) × List (List UInt8) × Int × Int × Int) × Int × Int × Int) → Option (((List (List UInt8) × List (List UInt8) × Int × Int × Int) × Int × Int × Int) ⊕ ((List (List UInt8) × List (List UInt8)) × Int × Int)) := fun ((o1, o2, c7a, c7b, c7c), at9, best11, k12) =>
  if decide (k12 ≤ c7b) = true then
    if 0 ≤ (42 : Int) ∧ (42 : Int) < (o2.length : Int) then
      (wainwrightref03_Run (o2.getD 42 [], 51, c7b, k12)).bind fun (r57, r57_2) =>
        if (!r57_2) = true then
          some (.inr ((((o1, o2), at9, best11))))
        else
          some (.inl (((o1, o2, c7a, c7b, c7c), r57, k12, IntKind.i64.wrap (k12 + 1))))
    else none
  else
    some (.inr ((((o1, o2), at9, best11))))

noncomputable def wainwrightref13_Run.l2 : ((List (List UInt8) × List (List UInt8)) × Int × Int × Int) → Option (((List (List UInt8) × List (List UInt8)) × Int × Int × Int) ⊕ ((List (List UInt8) × List (List UInt8)) × Int × Int)) := fun ((o1, o2), n1, at9, k15) =>
  if decide (k15 < n1) = true then
    (wainwrightref13_use ((o1, o2), IntKind.i64.wrap (at9 + k15))).bind fun (r76, r76_2) =>
      some (.inl (((r76, r76_2), n1, at9, IntKind.i64.wrap (k15 + 1))))
  else
    some (.inr ((((o1, o2), n1, at9))))

noncomputable def wainwrightref13_Run : ((List (List UInt8) × List (List UInt8)) × Int) → Option ((List (List UInt8) × List (List UInt8)) × Int × Int × Int) := fun ((o1, o2), n1) =>
  (wainwrightref12_Deal_Crown (o1, o2)).bind fun (r18, r18_2) =>
    if (r18_2 != 0) = true then
      some ((((o1, o2), 0, 0, r18_2)))
    else
      if decide (n1 < 1) = true then
        some ((((o1, o2), 0, 0, 1)))
      else
        if 0 ≤ (42 : Int) ∧ (42 : Int) < (o2.length : Int) then
          (wainwrightref03_Run (o2.getD 42 [], 51, r18.2.1, n1)).bind fun (r36, r36_2) =>
            ((
              if (!r36_2) = true then
                (loopO wainwrightref13_Run.l1 (((o1, o2, r18.1, r18.2.1, r18.2.2), r36, 0, 1))).bind fun ((o1, o2), at9, best11) =>
                  some ((((o1, o2), best11, at9)))
              else
                some ((((o1, o2), n1, r36)))) : Option ((List (List UInt8) × List (List UInt8)) × Int × Int)).bind fun ((o1, o2), n1, at9) =>
              if (n1 == 0) = true then
                some ((((o1, o2), 0, 0, 10)))
              else
                (loopO wainwrightref13_Run.l2 (((o1, o2), n1, at9, 0))).bind fun ((o1, o2), n1, at9) =>
                  some ((((o1, o2), at9, n1, 0)))
        else none

def wainwrightref13_Run.ins : Spec := ⟨79, 0, [.box (.cons (.ref 1) (.cons (.ref 2) .nil)), .arr .str, .arr .str], [0, 1], (.cons (.ref 0) (.cons (.v I) .nil))⟩
def wainwrightref13_Run.outs : List Spec := [⟨79, 3, [.box (.cons (.ref 1) (.cons (.ref 2) .nil)), .arr .str, .arr .str], [4, 5, 6], (.cons (.v I) (.cons (.v I) (.cons (.v I) .nil)))⟩]
noncomputable def wainwrightref13_Run.c : Callee' := ⟨98, mkFits wainwrightref13_Run.ins wainwrightref13_Run.outs, mkFun wainwrightref13_Run.ins wainwrightref13_Run.outs wainwrightref13_Run, mkFun_nat _ _ _⟩
noncomputable def wainwrightref13_Run.ann : Ann :=
  (.seq (.reg []) (.seq (.reg [.std, .callq [wainwrightref12_Deal_Crown.c]]) (.seq (.seq (.reg []) (.cond (.seq (.reg []) .std) .std)) (.seq (.seq (.reg []) (.cond (.seq (.reg []) .std) .std)) (.seq (.drw [.std, .std, .std, .std, .std, .std, .std, .std, .std, .callq [wainwrightref03_Run.c]]) (.join [(.norm, ⟨79, 3, [.box (.cons (.ref 1) (.cons (.ref 2) .nil)), .arr .str, .arr .str], [0, 1, 9], (.cons (.ref 0) (.cons (.v I) (.cons (.v I) .nil)))⟩)]
  (.seq (.reg []) (.cond (.seq (.reg []) (.seq (.seq (.reg []) (.block (.loop ⟨79, 3, [.box (.cons (.ref 1) (.cons (.ref 2) .nil)), .arr .str, .arr .str, .box (.cons (.v I) (.cons (.v I) (.cons (.v I) .nil)))], [0, 7, 9, 11, 12], (.cons (.ref 0) (.cons (.ref 3) (.cons (.v I) (.cons (.v I) (.cons (.v I) .nil)))))⟩ [(.exit 0, ⟨79, 3, [.box (.cons (.ref 1) (.cons (.ref 2) .nil)), .arr .str, .arr .str], [0, 9, 11], (.cons (.ref 0) (.cons (.v I) (.cons (.v I) .nil)))⟩)]
  (.seq (.seq (.reg []) (.cond .std .std)) (.seq (.block (.seq (.drw [.std, .std, .std, .std, .std, .std, .std, .std, .std, .callq [wainwrightref03_Run.c]]) (.seq (.seq (.reg []) (.cond .std .std)) (.seq (.reg []) (.reg []))))) (.reg [])))))) (.reg []))) .std)) (.seq (.seq (.reg []) (.cond (.seq (.reg []) .std) .std)) (.seq (.seq (.reg []) (.block (.loop ⟨79, 3, [.box (.cons (.ref 1) (.cons (.ref 2) .nil)), .arr .str, .arr .str], [0, 1, 9, 15], (.cons (.ref 0) (.cons (.v I) (.cons (.v I) (.cons (.v I) .nil))))⟩ [(.exit 2, ⟨79, 3, [.box (.cons (.ref 1) (.cons (.ref 2) .nil)), .arr .str, .arr .str], [1, 9], (.cons (.v I) (.cons (.v I) .nil))⟩)]
  (.seq (.seq (.reg []) (.cond .std .std)) (.seq (.block (.reg [.std, .std, .std, .std, .call [wainwrightref13_use.c]])) (.reg [])))))) (.seq (.reg []) .std)))))))))
noncomputable def wainwrightref13_Run.code : Code := match Tryz.f98.body with | some c => c | none => .skip
theorem wainwrightref13_Run.eq : absFn tt 79 wainwrightref13_Run.ins wainwrightref13_Run.outs wainwrightref13_Run.code wainwrightref13_Run.ann = wainwrightref13_Run := by
  funext a
  kernel_rfl
theorem wainwrightref13_Run.ok : wainwrightref13_Run.ann.ok Tryz.prog 3 79 :=
  ann_ok (by kernel_rfl) (by kernel_rfl) (show ∀ c ∈ ([wainwrightref12_Deal_Crown.c, wainwrightref03_Run.c, wainwrightref03_Run.c, wainwrightref13_use.c] : List Callee'), c.ok Tryz.prog from cs_cons wainwrightref12_Deal_Crown.sound (cs_cons wainwrightref03_Run.sound (cs_cons wainwrightref03_Run.sound (cs_cons wainwrightref13_use.sound cs_nil))))
    (show ∀ c ∈ ([wainwrightref12_Deal_Crown.c, wainwrightref03_Run.c, wainwrightref03_Run.c] : List Callee'), FunQuiet c.F from cs_cons wainwrightref12_Deal_Crown.quiet (cs_cons wainwrightref03_Run.quiet (cs_cons wainwrightref03_Run.quiet cs_nil)))
theorem wainwrightref13_Run.sound : wainwrightref13_Run.c.ok Tryz.prog := by
  refine ⟨?_, Tryz.f98, wainwrightref13_Run.code, Tryz.func98, rfl, by decide⟩
  have h := fn_sound tt_ok mix_ok (x := wainwrightref13_Run.ann) (ins := wainwrightref13_Run.ins) (outs := wainwrightref13_Run.outs) (N := 79) Tryz.func98 (c := wainwrightref13_Run.code) rfl rfl (by kernel_rfl) (by kernel_rfl) wainwrightref13_Run.ok (by decide)
  rw [wainwrightref13_Run.eq] at h
  exact h

/-! ### wainwright/wainwrightref13.Take: function 97 -/
noncomputable def wainwrightref13_Take : (List (List UInt8) × List (List UInt8)) → Option ((List (List UInt8) × List (List UInt8)) × Int × Int) := fun (o1, o2) =>
  (wainwrightref13_Run ((o1, o2), 1)).bind fun ((r9, r9_2), r9_3, r9_4, r9_5) =>
    some ((((r9, r9_2), r9_3, r9_5)))

def wainwrightref13_Take.ins : Spec := ⟨15, 0, [.box (.cons (.ref 1) (.cons (.ref 2) .nil)), .arr .str, .arr .str], [0], (.cons (.ref 0) .nil)⟩
def wainwrightref13_Take.outs : List Spec := [⟨15, 3, [.box (.cons (.ref 1) (.cons (.ref 2) .nil)), .arr .str, .arr .str], [2, 3], (.cons (.v I) (.cons (.v I) .nil))⟩]
noncomputable def wainwrightref13_Take.c : Callee' := ⟨97, mkFits wainwrightref13_Take.ins wainwrightref13_Take.outs, mkFun wainwrightref13_Take.ins wainwrightref13_Take.outs wainwrightref13_Take, mkFun_nat _ _ _⟩
noncomputable def wainwrightref13_Take.ann : Ann :=
  (.seq (.reg []) (.seq (.reg [.std, .call [wainwrightref13_Run.c]]) (.seq (.reg []) .std)))
noncomputable def wainwrightref13_Take.code : Code := match Tryz.f97.body with | some c => c | none => .skip
theorem wainwrightref13_Take.eq : absFn tt 15 wainwrightref13_Take.ins wainwrightref13_Take.outs wainwrightref13_Take.code wainwrightref13_Take.ann = wainwrightref13_Take := by
  funext a
  kernel_rfl
theorem wainwrightref13_Take.ok : wainwrightref13_Take.ann.ok Tryz.prog 3 15 :=
  ann_ok (by kernel_rfl) (by kernel_rfl) (show ∀ c ∈ ([wainwrightref13_Run.c] : List Callee'), c.ok Tryz.prog from cs_cons wainwrightref13_Run.sound cs_nil)
    (show ∀ c ∈ ([] : List Callee'), FunQuiet c.F from cs_nil)
theorem wainwrightref13_Take.sound : wainwrightref13_Take.c.ok Tryz.prog := by
  refine ⟨?_, Tryz.f97, wainwrightref13_Take.code, Tryz.func97, rfl, by decide⟩
  have h := fn_sound tt_ok mix_ok (x := wainwrightref13_Take.ann) (ins := wainwrightref13_Take.ins) (outs := wainwrightref13_Take.outs) (N := 15) Tryz.func97 (c := wainwrightref13_Take.code) rfl rfl (by kernel_rfl) (by kernel_rfl) wainwrightref13_Take.ok (by decide)
  rw [wainwrightref13_Take.eq] at h
  exact h

/-! ### wainwright/wainwrightref13.owned: function 147 -/
noncomputable def wainwrightref13_owned : ((Int × Int × Int) × Int) → Option (Bool) := fun (c0, i1) =>
  if decide (i1 ≥ 51) = true then
    some ((decide (i1 < c0.2.1)))
  else
    some false

def wainwrightref13_owned.ins : Spec := ⟨13, 0, [], [0, 1], (.cons (.v (.st (.pair I (.pair I I)))) (.cons (.v I) .nil))⟩
def wainwrightref13_owned.outs : List Spec := [⟨13, 0, [], [4], (.cons (.v .bool) .nil)⟩]
noncomputable def wainwrightref13_owned.c : Callee' := ⟨147, mkFits wainwrightref13_owned.ins wainwrightref13_owned.outs, mkFun wainwrightref13_owned.ins wainwrightref13_owned.outs wainwrightref13_owned, mkFun_nat _ _ _⟩
theorem wainwrightref13_owned.quiet : FunQuiet wainwrightref13_owned.c.F := mkFun_quiet rfl rfl
noncomputable def wainwrightref13_owned.ann : Ann :=
  (.seq (.reg []) (.seq (.reg []) .std))
noncomputable def wainwrightref13_owned.code : Code := match Tryz.f147.body with | some c => c | none => .skip
theorem wainwrightref13_owned.eq : absFn tt 13 wainwrightref13_owned.ins wainwrightref13_owned.outs wainwrightref13_owned.code wainwrightref13_owned.ann = wainwrightref13_owned := by
  funext a
  kernel_rfl
theorem wainwrightref13_owned.ok : wainwrightref13_owned.ann.ok Tryz.prog 0 13 :=
  ann_ok (by kernel_rfl) (by kernel_rfl) (show ∀ c ∈ ([] : List Callee'), c.ok Tryz.prog from cs_nil)
    (show ∀ c ∈ ([] : List Callee'), FunQuiet c.F from cs_nil)
theorem wainwrightref13_owned.sound : wainwrightref13_owned.c.ok Tryz.prog := by
  refine ⟨?_, Tryz.f147, wainwrightref13_owned.code, Tryz.func147, rfl, by decide⟩
  have h := fn_sound tt_ok mix_ok (x := wainwrightref13_owned.ann) (ins := wainwrightref13_owned.ins) (outs := wainwrightref13_owned.outs) (N := 13) Tryz.func147 (c := wainwrightref13_owned.code) rfl rfl (by kernel_rfl) (by kernel_rfl) wainwrightref13_owned.ok (by decide)
  rw [wainwrightref13_owned.eq] at h
  exact h

/-! ### wainwright/wainwrightref13.Drop: function 99 -/
noncomputable def wainwrightref13_Drop : ((List (List UInt8) × List (List UInt8)) × Int) → Option ((List (List UInt8) × List (List UInt8)) × Int) := fun ((o1, o2), block1) =>
  (wainwrightref12_Deal_Crown (o1, o2)).bind fun (r9, r9_2) =>
    if (r9_2 != 0) = true then
      some ((((o1, o2), r9_2)))
    else
      (wainwrightref13_owned ((r9.1, r9.2.1, r9.2.2), block1)).bind fun r17 =>
        if (!r17) = false then
          if 0 ≤ (42 : Int) ∧ (42 : Int) < (o2.length : Int) then
            (wainwrightref03_Is (o2.getD 42 [], block1)).bind fun r27 =>
              if (!r27) = true then
                some ((((o1, o2), 15)))
              else
                if 0 ≤ (42 : Int) ∧ (42 : Int) < (o2.length : Int) then
                  (wainwrightref03_Set (o2.getD 42 [], block1, false)).bind fun r41 =>
                    if 0 ≤ (42 : Int) ∧ (42 : Int) < (o2.length : Int) then
                      some ((((o1, o2.set 42 r41), 0)))
                    else none
                else none
          else none
        else
          some ((((o1, o2), 15)))

def wainwrightref13_Drop.ins : Spec := ⟨43, 0, [.box (.cons (.ref 1) (.cons (.ref 2) .nil)), .arr .str, .arr .str], [0, 1], (.cons (.ref 0) (.cons (.v I) .nil))⟩
def wainwrightref13_Drop.outs : List Spec := [⟨43, 3, [.box (.cons (.ref 1) (.cons (.ref 2) .nil)), .arr .str, .arr .str], [4], (.cons (.v I) .nil)⟩]
noncomputable def wainwrightref13_Drop.c : Callee' := ⟨99, mkFits wainwrightref13_Drop.ins wainwrightref13_Drop.outs, mkFun wainwrightref13_Drop.ins wainwrightref13_Drop.outs wainwrightref13_Drop, mkFun_nat _ _ _⟩
noncomputable def wainwrightref13_Drop.ann : Ann :=
  (.seq (.reg []) (.seq (.reg [.std, .callq [wainwrightref12_Deal_Crown.c]]) (.seq (.seq (.reg []) (.cond (.seq (.reg []) .std) .std)) (.seq (.seq (.reg [.std, .std, .callq [wainwrightref13_owned.c], .std, .std, .std, .std, .std, .std, .std, .std, .std, .callq [wainwrightref03_Is.c]]) (.cond (.seq (.reg []) .std) .std)) (.seq (.drw [.std, .std, .std, .std, .std, .std, .std, .std, .std, .std, .std, .callq [wainwrightref03_Set.c]]) (.seq (.reg []) .std))))))
noncomputable def wainwrightref13_Drop.code : Code := match Tryz.f99.body with | some c => c | none => .skip
theorem wainwrightref13_Drop.eq : absFn tt 43 wainwrightref13_Drop.ins wainwrightref13_Drop.outs wainwrightref13_Drop.code wainwrightref13_Drop.ann = wainwrightref13_Drop := by
  funext a
  kernel_rfl
theorem wainwrightref13_Drop.ok : wainwrightref13_Drop.ann.ok Tryz.prog 3 43 :=
  ann_ok (by kernel_rfl) (by kernel_rfl) (show ∀ c ∈ ([wainwrightref12_Deal_Crown.c, wainwrightref13_owned.c, wainwrightref03_Is.c, wainwrightref03_Set.c] : List Callee'), c.ok Tryz.prog from cs_cons wainwrightref12_Deal_Crown.sound (cs_cons wainwrightref13_owned.sound (cs_cons wainwrightref03_Is.sound (cs_cons wainwrightref03_Set.sound cs_nil))))
    (show ∀ c ∈ ([wainwrightref12_Deal_Crown.c, wainwrightref13_owned.c, wainwrightref03_Is.c, wainwrightref03_Set.c] : List Callee'), FunQuiet c.F from cs_cons wainwrightref12_Deal_Crown.quiet (cs_cons wainwrightref13_owned.quiet (cs_cons wainwrightref03_Is.quiet (cs_cons wainwrightref03_Set.quiet cs_nil))))
theorem wainwrightref13_Drop.sound : wainwrightref13_Drop.c.ok Tryz.prog := by
  refine ⟨?_, Tryz.f99, wainwrightref13_Drop.code, Tryz.func99, rfl, by decide⟩
  have h := fn_sound tt_ok mix_ok (x := wainwrightref13_Drop.ann) (ins := wainwrightref13_Drop.ins) (outs := wainwrightref13_Drop.outs) (N := 43) Tryz.func99 (c := wainwrightref13_Drop.code) rfl rfl (by kernel_rfl) (by kernel_rfl) wainwrightref13_Drop.ok (by decide)
  rw [wainwrightref13_Drop.eq] at h
  exact h

/-! ### wainwright/stock.Used: function 44 -/
noncomputable def stock_Used : (((Bool × Int) × (List (Int × List UInt8)) × (Int × Int) × List (List UInt8) × List (Int × List UInt8)) × Int) → Option (((Bool × Int) × (List (Int × List UInt8)) × (Int × Int) × List (List UInt8) × List (Int × List UInt8)) × Bool × Int) := fun (((o1b, o1c), o2, (o3c, o3d), o4, o5), block1) =>
  (stock_open_1 ((o1b, o1c), o2, (o3c, o3d), o4, o5)).bind fun d => match d with
  | .inl (((r10, r10_2), r10_3, (r10_4, r10_5), r10_6, r10_7), r10_8) =>
    if (r10_8 != 0) = true then
      some (((((r10, r10_2), r10_3, (r10_4, r10_5), r10_6, r10_7), false, r10_8)))
    else none
  | .inr ((((r10b, r10_2b), r10_3b, (r10_4b, r10_5b), r10_6b, r10_7b, r10_8b, r10_9b, r10_10b, r10_11b), r10_12b)) =>
    if (r10_12b != 0) = true then
      some (((((r10b, r10_2b), r10_3b, (r10_4b, r10_5b), r10_6b, r10_7b), false, r10_12b)))
    else
      (crown_Owned ((r10_8b, r10_9b, r10_10b), block1)).bind fun r23 =>
        if (!r23) = true then
          some (((((r10b, r10_2b), r10_3b, (r10_4b, r10_5b), r10_6b, r10_7b), false, 1)))
        else
          (marks_Is (r10_11b, block1)).bind fun r30 =>
            some (((((r10b, r10_2b), r10_3b, (r10_4b, r10_5b), r10_6b, r10_7b), r30, 0)))

def stock_Used.ins : Spec := ⟨31, 0, [.box (.cons (.ref 1) (.cons (.ref 2) .nil)), .box (.cons (.ref 3) (.cons (.v .bool) (.cons (.v I) .nil))), .map I .str, .box (.cons (.ref 4) (.cons (.ref 5) (.cons (.v I) (.cons (.v I) .nil)))), .arr .str, .map I .str], [0, 1], (.cons (.ref 0) (.cons (.v I) .nil))⟩
def stock_Used.outs : List Spec := [⟨31, 6, [.box (.cons (.ref 1) (.cons (.ref 2) .nil)), .box (.cons (.ref 3) (.cons (.v .bool) (.cons (.v I) .nil))), .map I .str, .box (.cons (.ref 4) (.cons (.ref 5) (.cons (.v I) (.cons (.v I) .nil)))), .arr .str, .map I .str], [4, 5], (.cons (.v .bool) (.cons (.v I) .nil))⟩]
noncomputable def stock_Used.c : Callee' := ⟨44, mkFits stock_Used.ins stock_Used.outs, mkFun stock_Used.ins stock_Used.outs stock_Used, mkFun_nat _ _ _⟩
noncomputable def stock_Used.ann : Ann :=
  (.seq (.reg []) (.seq (.reg [.std, .call [stock_open_1.c]]) (.seq (.block (.seq (.reg []) (.cond (.seq (.reg []) .std) (.seq (.reg [.std, .std, .std, .std, .std, .callq [crown_Owned.c]]) (.cond (.seq (.reg []) .std) .std))))) (.seq (.reg [.std, .std, .std, .std, .std, .callq [marks_Is.c]]) .std))))
noncomputable def stock_Used.code : Code := match Tryz.f44.body with | some c => c | none => .skip
theorem stock_Used.eq : absFn tt 31 stock_Used.ins stock_Used.outs stock_Used.code stock_Used.ann = stock_Used := by
  funext a
  kernel_rfl
theorem stock_Used.ok : stock_Used.ann.ok Tryz.prog 6 31 :=
  ann_ok (by kernel_rfl) (by kernel_rfl) (show ∀ c ∈ ([stock_open_1.c, crown_Owned.c, marks_Is.c] : List Callee'), c.ok Tryz.prog from cs_cons stock_open_1.sound (cs_cons crown_Owned.sound (cs_cons marks_Is.sound cs_nil)))
    (show ∀ c ∈ ([crown_Owned.c, marks_Is.c] : List Callee'), FunQuiet c.F from cs_cons crown_Owned.quiet (cs_cons marks_Is.quiet cs_nil))
theorem stock_Used.sound : stock_Used.c.ok Tryz.prog := by
  refine ⟨?_, Tryz.f44, stock_Used.code, Tryz.func44, rfl, by decide⟩
  have h := fn_sound tt_ok mix_ok (x := stock_Used.ann) (ins := stock_Used.ins) (outs := stock_Used.outs) (N := 31) Tryz.func44 (c := stock_Used.code) rfl rfl (by kernel_rfl) (by kernel_rfl) stock_Used.ok (by decide)
  rw [stock_Used.eq] at h
  exact h

/-! ### wainwright/wainwrightref13.Used: function 100 -/
noncomputable def wainwrightref13_Used : ((List (List UInt8) × List (List UInt8)) × Int) → Option (Bool × Int) := fun (d0, block1) =>
  (wainwrightref12_Deal_Crown d0).bind fun (r10, r10_2) =>
    if (r10_2 != 0) = true then
      some (((false, r10_2)))
    else
      (wainwrightref13_owned ((r10.1, r10.2.1, r10.2.2), block1)).bind fun r18 =>
        if (!r18) = true then
          some (((false, 1)))
        else
          if 0 ≤ (42 : Int) ∧ (42 : Int) < (d0.2.length : Int) then
            (wainwrightref03_Is (d0.2.getD 42 [], block1)).bind fun r27 =>
              some (((r27, 0)))
          else none

def wainwrightref13_Used.ins : Spec := ⟨28, 0, [], [0, 1], (.cons (.v (.ptr (.pair (.sl .str) (.sl .str)))) (.cons (.v I) .nil))⟩
def wainwrightref13_Used.outs : List Spec := [⟨28, 0, [], [4, 5], (.cons (.v .bool) (.cons (.v I) .nil))⟩]
noncomputable def wainwrightref13_Used.c : Callee' := ⟨100, mkFits wainwrightref13_Used.ins wainwrightref13_Used.outs, mkFun wainwrightref13_Used.ins wainwrightref13_Used.outs wainwrightref13_Used, mkFun_nat _ _ _⟩
theorem wainwrightref13_Used.quiet : FunQuiet wainwrightref13_Used.c.F := mkFun_quiet rfl rfl
noncomputable def wainwrightref13_Used.ann : Ann :=
  (.seq (.reg []) (.seq (.reg [.std, .callq [wainwrightref12_Deal_Crown.c]]) (.seq (.seq (.reg []) (.cond (.seq (.reg []) .std) .std)) (.seq (.seq (.reg [.std, .std, .callq [wainwrightref13_owned.c]]) (.cond (.seq (.reg []) .std) .std)) (.seq (.reg [.std, .std, .std, .std, .std, .std, .std, .callq [wainwrightref03_Is.c]]) .std)))))
noncomputable def wainwrightref13_Used.code : Code := match Tryz.f100.body with | some c => c | none => .skip
theorem wainwrightref13_Used.eq : absFn tt 28 wainwrightref13_Used.ins wainwrightref13_Used.outs wainwrightref13_Used.code wainwrightref13_Used.ann = wainwrightref13_Used := by
  funext a
  kernel_rfl
theorem wainwrightref13_Used.ok : wainwrightref13_Used.ann.ok Tryz.prog 0 28 :=
  ann_ok (by kernel_rfl) (by kernel_rfl) (show ∀ c ∈ ([wainwrightref12_Deal_Crown.c, wainwrightref13_owned.c, wainwrightref03_Is.c] : List Callee'), c.ok Tryz.prog from cs_cons wainwrightref12_Deal_Crown.sound (cs_cons wainwrightref13_owned.sound (cs_cons wainwrightref03_Is.sound cs_nil)))
    (show ∀ c ∈ ([wainwrightref12_Deal_Crown.c, wainwrightref13_owned.c, wainwrightref03_Is.c] : List Callee'), FunQuiet c.F from cs_cons wainwrightref12_Deal_Crown.quiet (cs_cons wainwrightref13_owned.quiet (cs_cons wainwrightref03_Is.quiet cs_nil)))
theorem wainwrightref13_Used.sound : wainwrightref13_Used.c.ok Tryz.prog := by
  refine ⟨?_, Tryz.f100, wainwrightref13_Used.code, Tryz.func100, rfl, by decide⟩
  have h := fn_sound tt_ok mix_ok (x := wainwrightref13_Used.ann) (ins := wainwrightref13_Used.ins) (outs := wainwrightref13_Used.outs) (N := 28) Tryz.func100 (c := wainwrightref13_Used.code) rfl rfl (by kernel_rfl) (by kernel_rfl) wainwrightref13_Used.ok (by decide)
  rw [wainwrightref13_Used.eq] at h
  exact h

/-! ### wainwright/wainwrightref13.Free: function 101 -/
noncomputable def wainwrightref13_Free.l1 : ((Int × Int × Int) × (List (List UInt8) × List (List UInt8)) × Int × Int) → Option (((Int × Int × Int) × (List (List UInt8) × List (List UInt8)) × Int × Int) ⊕ Int) := fun ((c4a, c4b, c4c), d0, n6, i7) =>
  if decide (i7 < c4b) = true then
    if 0 ≤ (42 : Int) ∧ (42 : Int) < (d0.2.length : Int) then
      (wainwrightref03_Is (d0.2.getD 42 [], i7)).bind fun r29 =>
        if (!r29) = true then
          some (.inl (((c4a, c4b, c4c), d0, IntKind.i64.wrap (n6 + 1), IntKind.i64.wrap (i7 + 1))))
        else
          some (.inl (((c4a, c4b, c4c), d0, n6, IntKind.i64.wrap (i7 + 1))))
    else none
  else
    some (.inr n6)

noncomputable def wainwrightref13_Free : (List (List UInt8) × List (List UInt8)) → Option (Int × Int) := fun d0 =>
  (wainwrightref12_Deal_Crown d0).bind fun (r10, r10_2) =>
    if (r10_2 != 0) = true then
      some (((0, r10_2)))
    else
      (loopO wainwrightref13_Free.l1 (((r10.1, r10.2.1, r10.2.2), d0, 0, 51))).bind fun n6 =>
        some (((n6, 0)))

def wainwrightref13_Free.ins : Spec := ⟨34, 0, [], [0], (.cons (.v (.ptr (.pair (.sl .str) (.sl .str)))) .nil)⟩
def wainwrightref13_Free.outs : List Spec := [⟨34, 0, [], [2, 3], (.cons (.v I) (.cons (.v I) .nil))⟩]
noncomputable def wainwrightref13_Free.c : Callee' := ⟨101, mkFits wainwrightref13_Free.ins wainwrightref13_Free.outs, mkFun wainwrightref13_Free.ins wainwrightref13_Free.outs wainwrightref13_Free, mkFun_nat _ _ _⟩
theorem wainwrightref13_Free.quiet : FunQuiet wainwrightref13_Free.c.F := mkFun_quiet rfl rfl
noncomputable def wainwrightref13_Free.ann : Ann :=
  (.seq (.reg []) (.seq (.reg [.std, .callq [wainwrightref12_Deal_Crown.c]]) (.seq (.seq (.reg []) (.cond (.seq (.reg []) .std) .std)) (.seq (.reg []) (.seq (.seq (.reg []) (.block (.loop ⟨34, 0, [.box (.cons (.v I) (.cons (.v I) (.cons (.v I) .nil)))], [0, 4, 6, 7], (.cons (.v (.ptr (.pair (.sl .str) (.sl .str)))) (.cons (.ref 0) (.cons (.v I) (.cons (.v I) .nil))))⟩ [(.exit 0, ⟨34, 0, [], [6], (.cons (.v I) .nil)⟩)]
  (.seq (.seq (.reg []) (.cond .std .std)) (.seq (.block (.seq (.reg [.std, .std, .std, .std, .std, .std, .std, .callq [wainwrightref03_Is.c]]) (.cond (.reg []) .std))) (.reg [])))))) (.seq (.reg []) .std))))))
noncomputable def wainwrightref13_Free.code : Code := match Tryz.f101.body with | some c => c | none => .skip
theorem wainwrightref13_Free.eq : absFn tt 34 wainwrightref13_Free.ins wainwrightref13_Free.outs wainwrightref13_Free.code wainwrightref13_Free.ann = wainwrightref13_Free := by
  funext a
  kernel_rfl
theorem wainwrightref13_Free.ok : wainwrightref13_Free.ann.ok Tryz.prog 0 34 :=
  ann_ok (by kernel_rfl) (by kernel_rfl) (show ∀ c ∈ ([wainwrightref12_Deal_Crown.c, wainwrightref03_Is.c] : List Callee'), c.ok Tryz.prog from cs_cons wainwrightref12_Deal_Crown.sound (cs_cons wainwrightref03_Is.sound cs_nil))
    (show ∀ c ∈ ([wainwrightref12_Deal_Crown.c, wainwrightref03_Is.c] : List Callee'), FunQuiet c.F from cs_cons wainwrightref12_Deal_Crown.quiet (cs_cons wainwrightref03_Is.quiet cs_nil))
theorem wainwrightref13_Free.sound : wainwrightref13_Free.c.ok Tryz.prog := by
  refine ⟨?_, Tryz.f101, wainwrightref13_Free.code, Tryz.func101, rfl, by decide⟩
  have h := fn_sound tt_ok mix_ok (x := wainwrightref13_Free.ann) (ins := wainwrightref13_Free.ins) (outs := wainwrightref13_Free.outs) (N := 34) Tryz.func101 (c := wainwrightref13_Free.code) rfl rfl (by kernel_rfl) (by kernel_rfl) wainwrightref13_Free.ok (by decide)
  rw [wainwrightref13_Free.eq] at h
  exact h

/-! ### (*wainwright/wainwrightlaw13.Pair).step: function 43 -/
noncomputable def wainwrightlaw13_Pair_step : (((Bool × Int) × (List (Int × List UInt8)) × List (List UInt8) × List (List UInt8) × (Int × Int) × List (List UInt8) × List (Int × List UInt8)) × Int × Int) → Option (((Bool × Int) × (List (Int × List UInt8)) × List (List UInt8) × List (List UInt8) × (Int × Int) × List (List UInt8) × List (Int × List UInt8)) × Bool) := fun (((o3b, o3c), o4, o5, o6, (o7c, o7d), o8, o9), ov1) =>
  (wainwrightlaw13_Op_kind (ov1.1, ov1.2)).bind fun r24 =>
    if (r24 == 0) = true then
      (stock_Take_1 ((o3b, o3c), o4, (o7c, o7d), o8, o9)).bind fun (((r32, r32_2), r32_3, (r32_4, r32_5), r32_6, r32_7), r32_8, r32_9) =>
        (wainwrightref13_Take (o5, o6)).bind fun ((r40, r40_2), r40_3, r40_4) =>
          if (r32_8 == r40_3) = true then
            some (((((r32, r32_2), r32_3, r40, r40_2, (r32_4, r32_5), r32_6, r32_7), (r32_9 == r40_4))))
          else
            some (((((r32, r32_2), r32_3, r40, r40_2, (r32_4, r32_5), r32_6, r32_7), false)))
    else
      if (r24 == 1) = true then
        (stock_Run_1 (((o3b, o3c), o4, (o7c, o7d), o8, o9), ov1.2)).bind fun (((r60, r60_2), r60_3, (r60_4, r60_5), r60_6, r60_7), r60_8, r60_9, r60_10) =>
          (wainwrightref13_Run ((o5, o6), ov1.2)).bind fun ((r71, r71_2), r71_3, r71_4, r71_5) =>
            if (r60_8 == r71_3) = true then
              if (r60_9 == r71_4) = true then
                some (((((r60, r60_2), r60_3, r71, r71_2, (r60_4, r60_5), r60_6, r60_7), (r60_10 == r71_5))))
              else
                some (((((r60, r60_2), r60_3, r71, r71_2, (r60_4, r60_5), r60_6, r60_7), false)))
            else
              some (((((r60, r60_2), r60_3, r71, r71_2, (r60_4, r60_5), r60_6, r60_7), false)))
      else
        if (r24 == 2) = true then
          (stock_Drop_1 (((o3b, o3c), o4, (o7c, o7d), o8, o9), ov1.2)).bind fun (((r96, r96_2), r96_3, (r96_4, r96_5), r96_6, r96_7), r96_8) =>
            (wainwrightref13_Drop ((o5, o6), ov1.2)).bind fun ((r103, r103_2), r103_3) =>
              some (((((r96, r96_2), r96_3, r103, r103_2, (r96_4, r96_5), r96_6, r96_7), (r96_8 == r103_3))))
        else
          (stock_Used (((o3b, o3c), o4, (o7c, o7d), o8, o9), ov1.2)).bind fun (((r112, r112_2), r112_3, (r112_4, r112_5), r112_6, r112_7), r112_8, r112_9) =>
            (wainwrightref13_Used ((o5, o6), ov1.2)).bind fun (r122, r122_2) =>
              (stock_Free_1 ((r112, r112_2), r112_3, (r112_4, r112_5), r112_6, r112_7)).bind fun (((r130, r130_2), r130_3, (r130_4, r130_5), r130_6, r130_7), r130_8, r130_9) =>
                (wainwrightref13_Free (o5, o6)).bind fun (r138, r138_2) =>
                  if (r112_8 == r122) = true then
                    if (r112_9 == r122_2) = true then
                      if (r130_8 == r138) = true then
                        some (((((r130, r130_2), r130_3, o5, o6, (r130_4, r130_5), r130_6, r130_7), (r130_9 == r138_2))))
                      else
                        some (((((r130, r130_2), r130_3, o5, o6, (r130_4, r130_5), r130_6, r130_7), false)))
                    else
                      some (((((r130, r130_2), r130_3, o5, o6, (r130_4, r130_5), r130_6, r130_7), false)))
                  else
                    some (((((r130, r130_2), r130_3, o5, o6, (r130_4, r130_5), r130_6, r130_7), false)))

def wainwrightlaw13_Pair_step.ins : Spec := ⟨159, 0, [.box (.cons (.ref 1) (.cons (.ref 2) .nil)), .box (.cons (.ref 3) (.cons (.ref 4) .nil)), .box (.cons (.ref 5) (.cons (.ref 6) .nil)), .box (.cons (.ref 7) (.cons (.v .bool) (.cons (.v I) .nil))), .map I .str, .arr .str, .arr .str, .box (.cons (.ref 8) (.cons (.ref 9) (.cons (.v I) (.cons (.v I) .nil)))), .arr .str, .map I .str], [0, 1], (.cons (.ref 0) (.cons (.v (.st (.pair I I))) .nil))⟩
def wainwrightlaw13_Pair_step.outs : List Spec := [⟨159, 10, [.box (.cons (.ref 1) (.cons (.ref 2) .nil)), .box (.cons (.ref 3) (.cons (.ref 4) .nil)), .box (.cons (.ref 5) (.cons (.ref 6) .nil)), .box (.cons (.ref 7) (.cons (.v .bool) (.cons (.v I) .nil))), .map I .str, .arr .str, .arr .str, .box (.cons (.ref 8) (.cons (.ref 9) (.cons (.v I) (.cons (.v I) .nil)))), .arr .str, .map I .str], [4], (.cons (.v .bool) .nil)⟩]
noncomputable def wainwrightlaw13_Pair_step.c : Callee' := ⟨43, mkFits wainwrightlaw13_Pair_step.ins wainwrightlaw13_Pair_step.outs, mkFun wainwrightlaw13_Pair_step.ins wainwrightlaw13_Pair_step.outs wainwrightlaw13_Pair_step, mkFun_nat _ _ _⟩
noncomputable def wainwrightlaw13_Pair_step.ann : Ann :=
  (.seq (.reg []) (.seq (.seq (.reg [.std, .callq [wainwrightlaw13_Op_kind.c]]) (.block (.seq (.reg []) (.cond (.seq (.reg [.std, .std, .std, .std, .call [stock_Take_1.c]]) (.seq (.reg [.std, .std, .std, .std, .call [wainwrightref13_Take.c]]) (.seq (.reg []) .std))) (.seq (.reg []) (.cond (.seq (.drw [.std, .std, .std, .std, .std, .std, .call [stock_Run_1.c]]) (.seq (.drw [.std, .std, .std, .std, .std, .std, .call [wainwrightref13_Run.c]]) (.seq (.reg []) .std))) (.seq (.reg []) (.cond (.seq (.drw [.std, .std, .std, .std, .std, .std, .call [stock_Drop_1.c], .std, .std, .std, .std, .std, .std, .call [wainwrightref13_Drop.c]]) .std) .std)))))))) (.seq (.drw [.std, .std, .std, .std, .std, .std, .call [stock_Used.c]]) (.seq (.drw [.std, .std, .std, .std, .std, .std, .callq [wainwrightref13_Used.c]]) (.seq (.reg [.std, .std, .std, .std, .call [stock_Free_1.c]]) (.seq (.reg [.std, .std, .std, .std, .callq [wainwrightref13_Free.c]]) (.seq (.reg []) .std)))))))
noncomputable def wainwrightlaw13_Pair_step.code : Code := match Tryz.f43.body with | some c => c | none => .skip
theorem wainwrightlaw13_Pair_step.eq : absFn tt 159 wainwrightlaw13_Pair_step.ins wainwrightlaw13_Pair_step.outs wainwrightlaw13_Pair_step.code wainwrightlaw13_Pair_step.ann = wainwrightlaw13_Pair_step := by
  funext a
  kernel_rfl
theorem wainwrightlaw13_Pair_step.ok : wainwrightlaw13_Pair_step.ann.ok Tryz.prog 10 159 :=
  ann_ok (by kernel_rfl) (by kernel_rfl) (show ∀ c ∈ ([wainwrightlaw13_Op_kind.c, stock_Take_1.c, wainwrightref13_Take.c, stock_Run_1.c, wainwrightref13_Run.c, stock_Drop_1.c, wainwrightref13_Drop.c, stock_Used.c, wainwrightref13_Used.c, stock_Free_1.c, wainwrightref13_Free.c] : List Callee'), c.ok Tryz.prog from cs_cons wainwrightlaw13_Op_kind.sound (cs_cons stock_Take_1.sound (cs_cons wainwrightref13_Take.sound (cs_cons stock_Run_1.sound (cs_cons wainwrightref13_Run.sound (cs_cons stock_Drop_1.sound (cs_cons wainwrightref13_Drop.sound (cs_cons stock_Used.sound (cs_cons wainwrightref13_Used.sound (cs_cons stock_Free_1.sound (cs_cons wainwrightref13_Free.sound cs_nil)))))))))))
    (show ∀ c ∈ ([wainwrightlaw13_Op_kind.c, wainwrightref13_Used.c, wainwrightref13_Free.c] : List Callee'), FunQuiet c.F from cs_cons wainwrightlaw13_Op_kind.quiet (cs_cons wainwrightref13_Used.quiet (cs_cons wainwrightref13_Free.quiet cs_nil)))
theorem wainwrightlaw13_Pair_step.sound : wainwrightlaw13_Pair_step.c.ok Tryz.prog := by
  refine ⟨?_, Tryz.f43, wainwrightlaw13_Pair_step.code, Tryz.func43, rfl, by decide⟩
  have h := fn_sound tt_ok mix_ok (x := wainwrightlaw13_Pair_step.ann) (ins := wainwrightlaw13_Pair_step.ins) (outs := wainwrightlaw13_Pair_step.outs) (N := 159) Tryz.func43 (c := wainwrightlaw13_Pair_step.code) rfl rfl (by kernel_rfl) (by kernel_rfl) wainwrightlaw13_Pair_step.ok (by decide)
  rw [wainwrightlaw13_Pair_step.eq] at h
  exact h

/-! ### wainwright/wainwrightlaw13.StockRow: function 8 -/
noncomputable def wainwrightlaw13_StockRow.l1 : (((Bool × Int) × (List (Int × List UInt8)) × List (List UInt8) × List (List UInt8) × (Int × Int) × List (List UInt8) × List (Int × List UInt8)) × Int × (List (Int × Int)) × Int × Int) → Option ((((Bool × Int) × (List (Int × List UInt8)) × List (List UInt8) × List (List UInt8) × (Int × Int) × List (List UInt8) × List (Int × List UInt8)) × Int × (List (Int × Int)) × Int × Int) ⊕ ((((Bool × Int) × (List (Int × List UInt8)) × List (List UInt8) × List (List UInt8) × (Int × Int) × List (List UInt8) × List (Int × List UInt8)) × Int × Int) ⊕ Bool)) := fun (((o3b, o3c), o4, o5, o6, (o7c, o7d), o8, o9), n0, script1, want2, i8) =>
  if decide (i8 < (script1.length : Int)) = true then
    if 0 ≤ i8 ∧ i8 < (script1.length : Int) then
      (wainwrightlaw13_Pair_step (((o3b, o3c), o4, o5, o6, (o7c, o7d), o8, o9), (script1.getD i8.toNat (0, 0)).1, (script1.getD i8.toNat (0, 0)).2)).bind fun (((r38, r38_2), r38_3, r38_4, r38_5, (r38_6, r38_7), r38_8, r38_9), r38_10) =>
        if (!r38_10) = true then
          some (.inr (.inr false))
        else
          some (.inl ((((r38, r38_2), r38_3, r38_4, r38_5, (r38_6, r38_7), r38_8, r38_9), n0, script1, want2, IntKind.i64.wrap (i8 + 1))))
    else none
  else
    some (.inr (.inl ((((o3b, o3c), o4, o5, o6, (o7c, o7d), o8, o9), n0, want2))))

noncomputable def wainwrightlaw13_StockRow.l2 : (((Bool × Int) × (List (Int × List UInt8)) × List (List UInt8) × List (List UInt8) × (Int × Int) × List (List UInt8) × List (Int × List UInt8)) × Int × Int × Int × Int × Int) → Option ((((Bool × Int) × (List (Int × List UInt8)) × List (List UInt8) × List (List UInt8) × (Int × Int) × List (List UInt8) × List (Int × List UInt8)) × Int × Int × Int × Int × Int) ⊕ ((((Bool × Int) × (List (Int × List UInt8)) × List (List UInt8) × List (List UInt8) × (Int × Int) × List (List UInt8) × List (Int × List UInt8)) × Int × Int) ⊕ Bool)) := fun (((o3b, o3c), o4, o5, o6, (o7c, o7d), o8, o9), n0, want2, best9, row10, i11) =>
  if decide (i11 < n0) = true then
    (stock_Used (((o3b, o3c), o4, (o7c, o7d), o8, o9), i11)).bind fun (((r51, r51_2), r51_3, (r51_4, r51_5), r51_6, r51_7), r51_8, r51_9) =>
      if (r51_9 != 0) = true then
        some (.inr (.inr false))
      else
        if r51_8 = true then
          some (.inl ((((r51, r51_2), r51_3, o5, o6, (r51_4, r51_5), r51_6, r51_7), n0, want2, (if 0 > best9 then 0 else best9), 0, IntKind.i64.wrap (i11 + 1))))
        else
          some (.inl ((((r51, r51_2), r51_3, o5, o6, (r51_4, r51_5), r51_6, r51_7), n0, want2, (if IntKind.i64.wrap (row10 + 1) > best9 then IntKind.i64.wrap (row10 + 1) else best9), IntKind.i64.wrap (row10 + 1), IntKind.i64.wrap (i11 + 1))))
  else
    some (.inr (.inl ((((o3b, o3c), o4, o5, o6, (o7c, o7d), o8, o9), want2, best9))))

noncomputable def wainwrightlaw13_StockRow : (Int × (List (Int × Int)) × Int) → Option (Bool) := fun (n0, script1, want2) =>
  (wainwrightlaw13_lives ()).bind fun r17 =>
    if (!r17) = true then
      some false
    else
      (wainwrightlaw13_size n0).bind fun r20 =>
        (wainwrightlaw13_begin (r20, [])).bind fun d => match d with
        | .inl _ =>
          some false
        | .inr (.inl (r22b, r22_2b)) =>
          (wainwrightlaw13_early script1).bind fun r26 =>
            none
        | .inr (.inr (((r22c, r22_2c), r22_3c, r22_4c, r22_5c, (r22_6c, r22_7c), r22_8c, r22_9c))) =>
          (wainwrightlaw13_early script1).bind fun r26a =>
            (loopO wainwrightlaw13_StockRow.l1 ((((r22c, r22_2c), r22_3c, r22_4c, r22_5c, (r22_6c, r22_7c), r22_8c, r22_9c), r20, r26a, want2, 0))).bind fun d => match d with
            | .inl (((o3b, o3c), o4, o5, o6, (o7c, o7d), o8, o9), n0, want2) =>
              (loopO wainwrightlaw13_StockRow.l2 ((((o3b, o3c), o4, o5, o6, (o7c, o7d), o8, o9), n0, want2, 0, 0, 51))).bind fun d => match d with
              | .inl (((o3b, o3c), o4, o5, o6, (o7c, o7d), o8, o9), want2, best9) =>
                (stock_Run_1 (((o3b, o3c), o4, (o7c, o7d), o8, o9), want2)).bind fun (((r68, r68_2), r68_3, (r68_4, r68_5), r68_6, r68_7), r68_8, r68_9, r68_10) =>
                  if decide (want2 < 1) = false then
                    if (best9 == 0) = true then
                      if (r68_10 != 0) = true then
                        some (((r68_9 == 0)))
                      else
                        some false
                    else
                      if (r68_10 == 0) = true then
                        some (((r68_9 == (if best9 < want2 then best9 else want2))))
                      else
                        some false
                  else
                    if (r68_10 != 0) = true then
                      some (((r68_9 == 0)))
                    else
                      some false
              | .inr t6 =>
                some t6
            | .inr t6 =>
              some t6

def wainwrightlaw13_StockRow.ins : Spec := ⟨93, 0, [], [0, 1, 2], (.cons (.v I) (.cons (.v (.sl (.st (.pair I I)))) (.cons (.v I) .nil)))⟩
def wainwrightlaw13_StockRow.outs : List Spec := [⟨93, 0, [], [6], (.cons (.v .bool) .nil)⟩]
noncomputable def wainwrightlaw13_StockRow.c : Callee' := ⟨8, mkFits wainwrightlaw13_StockRow.ins wainwrightlaw13_StockRow.outs, mkFun wainwrightlaw13_StockRow.ins wainwrightlaw13_StockRow.outs wainwrightlaw13_StockRow, mkFun_nat _ _ _⟩
theorem wainwrightlaw13_StockRow.quiet : FunQuiet wainwrightlaw13_StockRow.c.F := mkFun_quiet rfl rfl
noncomputable def wainwrightlaw13_StockRow.ann : Ann :=
  (.seq (.reg []) (.seq (.seq (.reg [.callq [wainwrightlaw13_lives.c]]) (.cond (.seq (.reg []) .std) .std)) (.seq (.reg [.std, .callq [wainwrightlaw13_size.c]]) (.seq (.reg [.std, .call [wainwrightlaw13_begin.c]]) (.seq (.seq (.reg [.std, .obj .bool]) (.cond (.seq (.reg []) .std) .std)) (.seq (.reg [.std, .callq [wainwrightlaw13_early.c]]) (.seq (.seq (.reg []) (.block (.loop ⟨93, 0, [.box (.cons (.ref 1) (.cons (.ref 2) .nil)), .box (.cons (.ref 3) (.cons (.ref 4) .nil)), .box (.cons (.ref 5) (.cons (.ref 6) .nil)), .box (.cons (.ref 7) (.cons (.v .bool) (.cons (.v I) .nil))), .map I .str, .arr .str, .arr .str, .box (.cons (.ref 8) (.cons (.ref 9) (.cons (.v I) (.cons (.v I) .nil)))), .arr .str, .map I .str], [0, 1, 2, 7, 8], (.cons (.v I) (.cons (.v (.sl (.st (.pair I I)))) (.cons (.v I) (.cons (.ref 0) (.cons (.v I) .nil)))))⟩ [(.exit 0, ⟨93, 0, [.box (.cons (.ref 1) (.cons (.ref 2) .nil)), .box (.cons (.ref 3) (.cons (.ref 4) .nil)), .box (.cons (.ref 5) (.cons (.ref 6) .nil)), .box (.cons (.ref 7) (.cons (.v .bool) (.cons (.v I) .nil))), .map I .str, .arr .str, .arr .str, .box (.cons (.ref 8) (.cons (.ref 9) (.cons (.v I) (.cons (.v I) .nil)))), .arr .str, .map I .str], [0, 2, 7], (.cons (.v I) (.cons (.v I) (.cons (.ref 0) .nil)))⟩), (.ret, ⟨93, 0, [], [6], (.cons (.v .bool) .nil)⟩)]
  (.seq (.seq (.reg []) (.cond .std .std)) (.seq (.block (.seq (.reg [.std, .std, .std, .std, .std, .call [wainwrightlaw13_Pair_step.c]]) (.cond (.seq (.reg []) .std) .std))) (.reg [])))))) (.seq (.reg []) (.seq (.seq (.reg []) (.block (.loop ⟨93, 0, [.box (.cons (.ref 1) (.cons (.ref 2) .nil)), .box (.cons (.ref 3) (.cons (.ref 4) .nil)), .box (.cons (.ref 5) (.cons (.ref 6) .nil)), .box (.cons (.ref 7) (.cons (.v .bool) (.cons (.v I) .nil))), .map I .str, .arr .str, .arr .str, .box (.cons (.ref 8) (.cons (.ref 9) (.cons (.v I) (.cons (.v I) .nil)))), .arr .str, .map I .str], [0, 2, 7, 9, 10, 11], (.cons (.v I) (.cons (.v I) (.cons (.ref 0) (.cons (.v I) (.cons (.v I) (.cons (.v I) .nil))))))⟩ [(.exit 2, ⟨93, 0, [.box (.cons (.ref 1) (.cons (.ref 2) .nil)), .box (.cons (.ref 3) (.cons (.ref 4) .nil)), .box (.cons (.ref 5) (.cons (.ref 6) .nil)), .box (.cons (.ref 7) (.cons (.v .bool) (.cons (.v I) .nil))), .map I .str, .arr .str, .arr .str, .box (.cons (.ref 8) (.cons (.ref 9) (.cons (.v I) (.cons (.v I) .nil)))), .arr .str, .map I .str], [2, 7, 9], (.cons (.v I) (.cons (.ref 0) (.cons (.v I) .nil)))⟩), (.ret, ⟨93, 0, [], [6], (.cons (.v .bool) .nil)⟩)]
  (.seq (.seq (.reg []) (.cond .std .std)) (.seq (.block (.seq (.reg [.std, .std, .std, .std, .std, .call [stock_Used.c]]) (.seq (.seq (.reg []) (.cond (.seq (.reg []) .std) .std)) (.seq (.reg []) (.seq (.seq (.reg []) (.cond (.reg []) .std)) (.reg [])))))) (.reg [])))))) (.seq (.reg [.std, .std, .std, .std, .std, .call [stock_Run_1.c]]) (.seq (.seq (.reg []) (.cond (.seq (.reg []) .std) .std)) (.seq (.reg []) .std))))))))))))
noncomputable def wainwrightlaw13_StockRow.code : Code := match Tryz.f8.body with | some c => c | none => .skip
theorem wainwrightlaw13_StockRow.eq : absFn tt 93 wainwrightlaw13_StockRow.ins wainwrightlaw13_StockRow.outs wainwrightlaw13_StockRow.code wainwrightlaw13_StockRow.ann = wainwrightlaw13_StockRow := by
  funext a
  kernel_rfl
theorem wainwrightlaw13_StockRow.ok : wainwrightlaw13_StockRow.ann.ok Tryz.prog 0 93 :=
  ann_ok (by kernel_rfl) (by kernel_rfl) (show ∀ c ∈ ([wainwrightlaw13_lives.c, wainwrightlaw13_size.c, wainwrightlaw13_begin.c, wainwrightlaw13_early.c, wainwrightlaw13_Pair_step.c, stock_Used.c, stock_Run_1.c] : List Callee'), c.ok Tryz.prog from cs_cons wainwrightlaw13_lives.sound (cs_cons wainwrightlaw13_size.sound (cs_cons wainwrightlaw13_begin.sound (cs_cons wainwrightlaw13_early.sound (cs_cons wainwrightlaw13_Pair_step.sound (cs_cons stock_Used.sound (cs_cons stock_Run_1.sound cs_nil)))))))
    (show ∀ c ∈ ([wainwrightlaw13_lives.c, wainwrightlaw13_size.c, wainwrightlaw13_early.c] : List Callee'), FunQuiet c.F from cs_cons wainwrightlaw13_lives.quiet (cs_cons wainwrightlaw13_size.quiet (cs_cons wainwrightlaw13_early.quiet cs_nil)))
theorem wainwrightlaw13_StockRow.sound : wainwrightlaw13_StockRow.c.ok Tryz.prog := by
  refine ⟨?_, Tryz.f8, wainwrightlaw13_StockRow.code, Tryz.func8, rfl, by decide⟩
  have h := fn_sound tt_ok mix_ok (x := wainwrightlaw13_StockRow.ann) (ins := wainwrightlaw13_StockRow.ins) (outs := wainwrightlaw13_StockRow.outs) (N := 93) Tryz.func8 (c := wainwrightlaw13_StockRow.code) rfl rfl (by kernel_rfl) (by kernel_rfl) wainwrightlaw13_StockRow.ok (by decide)
  rw [wainwrightlaw13_StockRow.eq] at h
  exact h

/-! ### (*wainwright/deal.written).changes: function 102 -/
noncomputable def deal_written_changes.l1 : (((Bool × Int) × (List (Int × List UInt8)) × (Int × Int) × List (List UInt8) × (List (Int × List UInt8)) × List (Int × List UInt8)) × List Int × Int × Int) → Option ((((Bool × Int) × (List (Int × List UInt8)) × (Int × Int) × List (List UInt8) × (List (Int × List UInt8)) × List (Int × List UInt8)) × List Int × Int × Int) ⊕ ((Bool × Int) × (List (Int × List UInt8)) × (Int × Int) × List (List UInt8) × (List (Int × List UInt8)) × List (Int × List UInt8))) := fun (((o1b, o1c), o2, (o3c, o3d), o4, o5, c3), t12, t13, t14) =>
  if decide (t14 < t13) = true then
    if 0 ≤ t14 ∧ t14 < (t12.length : Int) then
      (log_Log_Read (((o4, o5, o3c, o3d), o1b, o1c), t12.getD t14.toNat 0)).bind fun r30 =>
        if (!((((mget (K := I) (V := .str) o2 (t12.getD t14.toNat 0)).getD [])) == r30)) = true then
          if roomOk (c3.length + (([(t12.getD t14.toNat 0, ((mget (K := I) (V := .str) o2 (t12.getD t14.toNat 0)).getD []))] : List (Int × List UInt8))).length) 24 then
            some (.inl ((((o1b, o1c), o2, (o3c, o3d), o4, o5, c3 ++ (([(t12.getD t14.toNat 0, ((mget (K := I) (V := .str) o2 (t12.getD t14.toNat 0)).getD []))] : List (Int × List UInt8)))), t12, t13, IntKind.i64.wrap (t14 + 1))))
          else none
        else
          some (.inl ((((o1b, o1c), o2, (o3c, o3d), o4, o5, c3), t12, t13, IntKind.i64.wrap (t14 + 1))))
    else none
  else
    some (.inr ((((o1b, o1c), o2, (o3c, o3d), o4, o5, c3))))

noncomputable def deal_written_changes : ((Bool × Int) × (List (Int × List UInt8)) × (Int × Int) × List (List UInt8) × List (Int × List UInt8)) → Option (((Bool × Int) × (List (Int × List UInt8)) × (Int × Int) × List (List UInt8) × List (Int × List UInt8)) × List (Int × List UInt8)) := fun ((o1b, o1c), o2, (o3c, o3d), o4, o5) =>
  (maps_Keys_map_int_string_int_string o2).bind fun r11 =>
    (slices_Sorted r11).bind fun (r12, r12_2) =>
      (loopO deal_written_changes.l1 ((((o1b, o1c), r12, (o3c, o3d), o4, o5, []), r12_2, (r12_2.length : Int), 0))).bind fun ((o1b, o1c), o2, (o3c, o3d), o4, o5, c3) =>
        some (((((o1b, o1c), o2, (o3c, o3d), o4, o5), c3)))

def deal_written_changes.ins : Spec := ⟨40, 0, [.box (.cons (.ref 1) (.cons (.ref 2) .nil)), .box (.cons (.ref 3) (.cons (.v .bool) (.cons (.v I) .nil))), .map I .str, .box (.cons (.ref 4) (.cons (.ref 5) (.cons (.v I) (.cons (.v I) .nil)))), .arr .str, .map I .str], [0], (.cons (.ref 0) .nil)⟩
def deal_written_changes.outs : List Spec := [⟨40, 6, [.box (.cons (.ref 1) (.cons (.ref 2) .nil)), .box (.cons (.ref 3) (.cons (.v .bool) (.cons (.v I) .nil))), .map I .str, .box (.cons (.ref 4) (.cons (.ref 5) (.cons (.v I) (.cons (.v I) .nil)))), .arr .str, .map I .str], [2], (.cons (.v (.sl (.st (.pair I .str)))) .nil)⟩]
noncomputable def deal_written_changes.c : Callee' := ⟨102, mkFits deal_written_changes.ins deal_written_changes.outs, mkFun deal_written_changes.ins deal_written_changes.outs deal_written_changes, mkFun_nat _ _ _⟩
noncomputable def deal_written_changes.ann : Ann :=
  (.seq (.reg []) (.seq (.reg []) (.seq (.seq (.reg [.std, .std, .std, .std, .call [maps_Keys_map_int_string_int_string.c], .call [slices_Sorted.c]]) (.block (.loop ⟨40, 6, [.box (.cons (.ref 1) (.cons (.ref 2) .nil)), .box (.cons (.ref 3) (.cons (.v .bool) (.cons (.v I) .nil))), .map I .str, .box (.cons (.ref 4) (.cons (.ref 5) (.cons (.v I) (.cons (.v I) .nil)))), .arr .str, .map I .str, .arr (.st (.pair I .str))], [0, 3, 12, 13, 14], (.cons (.ref 0) (.cons (.ref 6) (.cons (.v (.sl I)) (.cons (.v I) (.cons (.v I) .nil)))))⟩ [(.exit 0, ⟨40, 6, [.box (.cons (.ref 1) (.cons (.ref 2) .nil)), .box (.cons (.ref 3) (.cons (.v .bool) (.cons (.v I) .nil))), .map I .str, .box (.cons (.ref 4) (.cons (.ref 5) (.cons (.v I) (.cons (.v I) .nil)))), .arr .str, .map I .str, .arr (.st (.pair I .str))], [3], (.cons (.ref 6) .nil)⟩)]
  (.seq (.reg []) (.seq (.cond .std .std) (.seq (.block (.seq (.reg []) (.seq (.reg []) (.seq (.reg [.std, .std, .std, .std, .std, .std, .callq [log_Log_Read.c]]) (.cond (.reg [.std, .std, .std, .std, .inl (.st (.pair I .str)), .obj (.st (.pair I .str))]) .std))))) (.reg []))))))) (.seq (.reg []) .std))))
noncomputable def deal_written_changes.code : Code := match Tryz.f102.body with | some c => c | none => .skip
theorem deal_written_changes.eq : absFn tt 40 deal_written_changes.ins deal_written_changes.outs deal_written_changes.code deal_written_changes.ann = deal_written_changes := by
  funext a
  kernel_rfl
theorem deal_written_changes.ok : deal_written_changes.ann.ok Tryz.prog 6 40 :=
  ann_ok (by kernel_rfl) (by kernel_rfl) (show ∀ c ∈ ([maps_Keys_map_int_string_int_string.c, slices_Sorted.c, log_Log_Read.c] : List Callee'), c.ok Tryz.prog from cs_cons maps_Keys_map_int_string_int_string.sound (cs_cons slices_Sorted.sound (cs_cons log_Log_Read.sound cs_nil)))
    (show ∀ c ∈ ([log_Log_Read.c] : List Callee'), FunQuiet c.F from cs_cons log_Log_Read.quiet cs_nil)
theorem deal_written_changes.sound : deal_written_changes.c.ok Tryz.prog := by
  refine ⟨?_, Tryz.f102, deal_written_changes.code, Tryz.func102, rfl, by decide⟩
  have h := fn_sound tt_ok mix_ok (x := deal_written_changes.ann) (ins := deal_written_changes.ins) (outs := deal_written_changes.outs) (N := 40) Tryz.func102 (c := deal_written_changes.code) rfl rfl (by kernel_rfl) (by kernel_rfl) deal_written_changes.ok (by decide)
  rw [deal_written_changes.eq] at h
  exact h

/-! ### (*wainwright/deal.Deal).Changed: function 47 -/
noncomputable def deal_Deal_Changed.l1 : (((Bool × Int) × (List (Int × List UInt8)) × (Int × Int) × List (List UInt8) × (List (Int × List UInt8)) × List Int) × (List (Int × List UInt8)) × Int × Int) → Option ((((Bool × Int) × (List (Int × List UInt8)) × (Int × Int) × List (List UInt8) × (List (Int × List UInt8)) × List Int) × (List (Int × List UInt8)) × Int × Int) ⊕ ((Bool × Int) × (List (Int × List UInt8)) × (Int × Int) × List (List UInt8) × (List (Int × List UInt8)) × List Int)) := fun (((o1b, o1c), o2, (o3c, o3d), o4, o5, l3), t11, t12, t13) =>
  if decide (t13 < t12) = true then
    if 0 ≤ t13 ∧ t13 < (t11.length : Int) then
      if roomOk (l3.length + (([(t11.getD t13.toNat (0, [])).1] : List Int)).length) 8 then
        some (.inl ((((o1b, o1c), o2, (o3c, o3d), o4, o5, l3 ++ (([(t11.getD t13.toNat (0, [])).1] : List Int))), t11, t12, IntKind.i64.wrap (t13 + 1))))
      else none
    else none
  else
    some (.inr ((((o1b, o1c), o2, (o3c, o3d), o4, o5, l3))))

noncomputable def deal_Deal_Changed : ((Bool × Int) × (List (Int × List UInt8)) × (Int × Int) × List (List UInt8) × List (Int × List UInt8)) → Option (((Bool × Int) × (List (Int × List UInt8)) × (Int × Int) × List (List UInt8) × List (Int × List UInt8)) × List Int) := fun ((o1b, o1c), o2, (o3c, o3d), o4, o5) =>
  (deal_written_changes ((o1b, o1c), o2, (o3c, o3d), o4, o5)).bind fun (((r11, r11_2), r11_3, (r11_4, r11_5), r11_6, r11_7), r11_8) =>
    (loopO deal_Deal_Changed.l1 ((((r11, r11_2), r11_3, (r11_4, r11_5), r11_6, r11_7, []), r11_8, (r11_8.length : Int), 0))).bind fun ((o1b, o1c), o2, (o3c, o3d), o4, o5, l3) =>
      some (((((o1b, o1c), o2, (o3c, o3d), o4, o5), l3)))

def deal_Deal_Changed.ins : Spec := ⟨24, 0, [.box (.cons (.ref 1) (.cons (.ref 2) .nil)), .box (.cons (.ref 3) (.cons (.v .bool) (.cons (.v I) .nil))), .map I .str, .box (.cons (.ref 4) (.cons (.ref 5) (.cons (.v I) (.cons (.v I) .nil)))), .arr .str, .map I .str], [0], (.cons (.ref 0) .nil)⟩
def deal_Deal_Changed.outs : List Spec := [⟨24, 6, [.box (.cons (.ref 1) (.cons (.ref 2) .nil)), .box (.cons (.ref 3) (.cons (.v .bool) (.cons (.v I) .nil))), .map I .str, .box (.cons (.ref 4) (.cons (.ref 5) (.cons (.v I) (.cons (.v I) .nil)))), .arr .str, .map I .str], [2], (.cons (.v (.sl I)) .nil)⟩]
noncomputable def deal_Deal_Changed.c : Callee' := ⟨47, mkFits deal_Deal_Changed.ins deal_Deal_Changed.outs, mkFun deal_Deal_Changed.ins deal_Deal_Changed.outs deal_Deal_Changed, mkFun_nat _ _ _⟩
noncomputable def deal_Deal_Changed.ann : Ann :=
  (.seq (.reg []) (.seq (.seq (.reg [.std, .obj .bool]) (.cond (.seq (.reg []) .std) .std)) (.seq (.reg []) (.seq (.seq (.reg [.std, .std, .std, .call [deal_written_changes.c]]) (.block (.loop ⟨24, 6, [.box (.cons (.ref 1) (.cons (.ref 2) .nil)), .box (.cons (.ref 3) (.cons (.v .bool) (.cons (.v I) .nil))), .map I .str, .box (.cons (.ref 4) (.cons (.ref 5) (.cons (.v I) (.cons (.v I) .nil)))), .arr .str, .map I .str, .arr I], [3, 11, 12, 13], (.cons (.ref 6) (.cons (.v (.sl (.st (.pair I .str)))) (.cons (.v I) (.cons (.v I) .nil))))⟩ [(.exit 0, ⟨24, 6, [.box (.cons (.ref 1) (.cons (.ref 2) .nil)), .box (.cons (.ref 3) (.cons (.v .bool) (.cons (.v I) .nil))), .map I .str, .box (.cons (.ref 4) (.cons (.ref 5) (.cons (.v I) (.cons (.v I) .nil)))), .arr .str, .map I .str, .arr I], [3], (.cons (.ref 6) .nil)⟩)]
  (.seq (.reg []) (.seq (.cond .std .std) (.seq (.block (.seq (.reg []) (.reg [.std, .std, .std, .inl I, .obj I]))) (.reg []))))))) (.seq (.reg []) .std)))))
noncomputable def deal_Deal_Changed.code : Code := match Tryz.f47.body with | some c => c | none => .skip
theorem deal_Deal_Changed.eq : absFn tt 24 deal_Deal_Changed.ins deal_Deal_Changed.outs deal_Deal_Changed.code deal_Deal_Changed.ann = deal_Deal_Changed := by
  funext a
  kernel_rfl
theorem deal_Deal_Changed.ok : deal_Deal_Changed.ann.ok Tryz.prog 6 24 :=
  ann_ok (by kernel_rfl) (by kernel_rfl) (show ∀ c ∈ ([deal_written_changes.c] : List Callee'), c.ok Tryz.prog from cs_cons deal_written_changes.sound cs_nil)
    (show ∀ c ∈ ([] : List Callee'), FunQuiet c.F from cs_nil)
theorem deal_Deal_Changed.sound : deal_Deal_Changed.c.ok Tryz.prog := by
  refine ⟨?_, Tryz.f47, deal_Deal_Changed.code, Tryz.func47, rfl, by decide⟩
  have h := fn_sound tt_ok mix_ok (x := deal_Deal_Changed.ann) (ins := deal_Deal_Changed.ins) (outs := deal_Deal_Changed.outs) (N := 24) Tryz.func47 (c := deal_Deal_Changed.code) rfl rfl (by kernel_rfl) (by kernel_rfl) deal_Deal_Changed.ok (by decide)
  rw [deal_Deal_Changed.eq] at h
  exact h

/-! ### (*wainwright/wainwrightref12.Deal).Changed: function 62 -/
noncomputable def wainwrightref12_Deal_Changed.l1 : (List Int × (List (List UInt8) × List (List UInt8)) × Int) → Option ((List Int × (List (List UInt8) × List (List UInt8)) × Int) ⊕ (List Int)) := fun (out3, d0, i4) =>
  if decide (i4 < (d0.2.length : Int)) = true then
    if 0 ≤ i4 ∧ i4 < (d0.2.length : Int) then
      if 0 ≤ i4 ∧ i4 < (d0.1.length : Int) then
        if (!((d0.2.getD i4.toNat []) == (d0.1.getD i4.toNat []))) = true then
          if roomOk (out3.length + (([i4] : List Int)).length) 8 then
            some (.inl ((out3 ++ (([i4] : List Int)), d0, IntKind.i64.wrap (i4 + 1))))
          else none
        else
          some (.inl ((out3, d0, IntKind.i64.wrap (i4 + 1))))
      else none
    else none
  else
    some (.inr out3)

noncomputable def wainwrightref12_Deal_Changed : (List (List UInt8) × List (List UInt8)) → Option (List Int) := fun d0 =>
  (loopO wainwrightref12_Deal_Changed.l1 (([], d0, 0))).bind fun out3 =>
    some out3

def wainwrightref12_Deal_Changed.ins : Spec := ⟨34, 0, [], [0], (.cons (.v (.ptr (.pair (.sl .str) (.sl .str)))) .nil)⟩
def wainwrightref12_Deal_Changed.outs : List Spec := [⟨34, 0, [], [2], (.cons (.v (.sl I)) .nil)⟩]
noncomputable def wainwrightref12_Deal_Changed.c : Callee' := ⟨62, mkFits wainwrightref12_Deal_Changed.ins wainwrightref12_Deal_Changed.outs, mkFun wainwrightref12_Deal_Changed.ins wainwrightref12_Deal_Changed.outs wainwrightref12_Deal_Changed, mkFun_nat _ _ _⟩
theorem wainwrightref12_Deal_Changed.quiet : FunQuiet wainwrightref12_Deal_Changed.c.F := mkFun_quiet rfl rfl
noncomputable def wainwrightref12_Deal_Changed.ann : Ann :=
  (.seq (.reg []) (.seq (.reg []) (.seq (.seq (.reg []) (.block (.loop ⟨34, 0, [.arr I], [0, 3, 4], (.cons (.v (.ptr (.pair (.sl .str) (.sl .str)))) (.cons (.ref 0) (.cons (.v I) .nil)))⟩ [(.exit 0, ⟨34, 0, [.arr I], [3], (.cons (.ref 0) .nil)⟩)]
  (.seq (.seq (.reg []) (.cond .std .std)) (.seq (.block (.seq (.drw []) (.cond (.reg [.std, .std, .inl I, .obj I]) .std))) (.reg [])))))) (.seq (.reg []) .std))))
noncomputable def wainwrightref12_Deal_Changed.code : Code := match Tryz.f62.body with | some c => c | none => .skip
theorem wainwrightref12_Deal_Changed.eq : absFn tt 34 wainwrightref12_Deal_Changed.ins wainwrightref12_Deal_Changed.outs wainwrightref12_Deal_Changed.code wainwrightref12_Deal_Changed.ann = wainwrightref12_Deal_Changed := by
  funext a
  kernel_rfl
theorem wainwrightref12_Deal_Changed.ok : wainwrightref12_Deal_Changed.ann.ok Tryz.prog 0 34 :=
  ann_ok (by kernel_rfl) (by kernel_rfl) (show ∀ c ∈ ([] : List Callee'), c.ok Tryz.prog from cs_nil)
    (show ∀ c ∈ ([] : List Callee'), FunQuiet c.F from cs_nil)
theorem wainwrightref12_Deal_Changed.sound : wainwrightref12_Deal_Changed.c.ok Tryz.prog := by
  refine ⟨?_, Tryz.f62, wainwrightref12_Deal_Changed.code, Tryz.func62, rfl, by decide⟩
  have h := fn_sound tt_ok mix_ok (x := wainwrightref12_Deal_Changed.ann) (ins := wainwrightref12_Deal_Changed.ins) (outs := wainwrightref12_Deal_Changed.outs) (N := 34) Tryz.func62 (c := wainwrightref12_Deal_Changed.code) rfl rfl (by kernel_rfl) (by kernel_rfl) wainwrightref12_Deal_Changed.ok (by decide)
  rw [wainwrightref12_Deal_Changed.eq] at h
  exact h

/-! ### (*wainwright/wainwrightref12.Deal).Changed: function 62 -/
noncomputable def wainwrightref12_Deal_Changed_1.l1 : ((List (List UInt8) × List (List UInt8) × List Int) × Int) → Option (((List (List UInt8) × List (List UInt8) × List Int) × Int) ⊕ (List (List UInt8) × List (List UInt8) × List Int)) := fun ((o1, o2, out3), i4) =>
  if decide (i4 < (o2.length : Int)) = true then
    if 0 ≤ i4 ∧ i4 < (o2.length : Int) then
      if 0 ≤ i4 ∧ i4 < (o1.length : Int) then
        if (!((o2.getD i4.toNat []) == (o1.getD i4.toNat []))) = true then
          if roomOk (out3.length + (([i4] : List Int)).length) 8 then
            some (.inl (((o1, o2, out3 ++ (([i4] : List Int))), IntKind.i64.wrap (i4 + 1))))
          else none
        else
          some (.inl (((o1, o2, out3), IntKind.i64.wrap (i4 + 1))))
      else none
    else none
  else
    some (.inr (((o1, o2, out3))))

noncomputable def wainwrightref12_Deal_Changed_1 : (List (List UInt8) × List (List UInt8)) → Option ((List (List UInt8) × List (List UInt8)) × List Int) := fun (o1, o2) =>
  (loopO wainwrightref12_Deal_Changed_1.l1 (((o1, o2, []), 0))).bind fun (o1, o2, out3) =>
    some ((((o1, o2), out3)))

def wainwrightref12_Deal_Changed_1.ins : Spec := ⟨34, 0, [.box (.cons (.ref 1) (.cons (.ref 2) .nil)), .arr .str, .arr .str], [0], (.cons (.ref 0) .nil)⟩
def wainwrightref12_Deal_Changed_1.outs : List Spec := [⟨34, 3, [.box (.cons (.ref 1) (.cons (.ref 2) .nil)), .arr .str, .arr .str], [2], (.cons (.v (.sl I)) .nil)⟩]
noncomputable def wainwrightref12_Deal_Changed_1.c : Callee' := ⟨62, mkFits wainwrightref12_Deal_Changed_1.ins wainwrightref12_Deal_Changed_1.outs, mkFun wainwrightref12_Deal_Changed_1.ins wainwrightref12_Deal_Changed_1.outs wainwrightref12_Deal_Changed_1, mkFun_nat _ _ _⟩
noncomputable def wainwrightref12_Deal_Changed_1.ann : Ann :=
  (.seq (.reg []) (.seq (.reg []) (.seq (.seq (.reg []) (.block (.loop ⟨34, 3, [.box (.cons (.ref 1) (.cons (.ref 2) .nil)), .arr .str, .arr .str, .arr I], [0, 3, 4], (.cons (.ref 0) (.cons (.ref 3) (.cons (.v I) .nil)))⟩ [(.exit 0, ⟨34, 3, [.box (.cons (.ref 1) (.cons (.ref 2) .nil)), .arr .str, .arr .str, .arr I], [3], (.cons (.ref 3) .nil)⟩)]
  (.seq (.seq (.reg []) (.cond .std .std)) (.seq (.block (.seq (.drw []) (.cond (.reg [.std, .std, .inl I, .obj I]) .std))) (.reg [])))))) (.seq (.reg []) .std))))
noncomputable def wainwrightref12_Deal_Changed_1.code : Code := match Tryz.f62.body with | some c => c | none => .skip
theorem wainwrightref12_Deal_Changed_1.eq : absFn tt 34 wainwrightref12_Deal_Changed_1.ins wainwrightref12_Deal_Changed_1.outs wainwrightref12_Deal_Changed_1.code wainwrightref12_Deal_Changed_1.ann = wainwrightref12_Deal_Changed_1 := by
  funext a
  kernel_rfl
theorem wainwrightref12_Deal_Changed_1.ok : wainwrightref12_Deal_Changed_1.ann.ok Tryz.prog 3 34 :=
  ann_ok (by kernel_rfl) (by kernel_rfl) (show ∀ c ∈ ([] : List Callee'), c.ok Tryz.prog from cs_nil)
    (show ∀ c ∈ ([] : List Callee'), FunQuiet c.F from cs_nil)
theorem wainwrightref12_Deal_Changed_1.sound : wainwrightref12_Deal_Changed_1.c.ok Tryz.prog := by
  refine ⟨?_, Tryz.f62, wainwrightref12_Deal_Changed_1.code, Tryz.func62, rfl, by decide⟩
  have h := fn_sound tt_ok mix_ok (x := wainwrightref12_Deal_Changed_1.ann) (ins := wainwrightref12_Deal_Changed_1.ins) (outs := wainwrightref12_Deal_Changed_1.outs) (N := 34) Tryz.func62 (c := wainwrightref12_Deal_Changed_1.code) rfl rfl (by kernel_rfl) (by kernel_rfl) wainwrightref12_Deal_Changed_1.ok (by decide)
  rw [wainwrightref12_Deal_Changed_1.eq] at h
  exact h

/-! ### wainwright/wainwrightref01.Same: function 61 -/
noncomputable def wainwrightref01_Same.l1 : (List Int × List Int × Int) → Option ((List Int × List Int × Int) ⊕ (Unit ⊕ Bool)) := fun (a0, b1, i5) =>
  if decide (i5 < (a0.length : Int)) = true then
    if 0 ≤ i5 ∧ i5 < (a0.length : Int) then
      if 0 ≤ i5 ∧ i5 < (b1.length : Int) then
        if (a0.getD i5.toNat 0 != b1.getD i5.toNat 0) = true then
          some (.inr (.inr false))
        else
          some (.inl ((a0, b1, IntKind.i64.wrap (i5 + 1))))
      else none
    else none
  else
    some (.inr (.inl ()))

noncomputable def wainwrightref01_Same : (List Int × List Int) → Option (Bool) := fun (a0, b1) =>
  if ((a0.length : Int) != (b1.length : Int)) = true then
    some false
  else
    (loopO wainwrightref01_Same.l1 ((a0, b1, 0))).bind fun d => match d with
    | .inl _ =>
      some true
    | .inr t4 =>
      some t4

def wainwrightref01_Same.ins : Spec := ⟨26, 0, [], [0, 1], (.cons (.v (.sl I)) (.cons (.v (.sl I)) .nil))⟩
def wainwrightref01_Same.outs : List Spec := [⟨26, 0, [], [4], (.cons (.v .bool) .nil)⟩]
noncomputable def wainwrightref01_Same.c : Callee' := ⟨61, mkFits wainwrightref01_Same.ins wainwrightref01_Same.outs, mkFun wainwrightref01_Same.ins wainwrightref01_Same.outs wainwrightref01_Same, mkFun_nat _ _ _⟩
theorem wainwrightref01_Same.quiet : FunQuiet wainwrightref01_Same.c.F := mkFun_quiet rfl rfl
noncomputable def wainwrightref01_Same.ann : Ann :=
  (.seq (.reg []) (.seq (.seq (.reg []) (.cond (.seq (.reg []) .std) .std)) (.seq (.seq (.reg []) (.block (.loop ⟨26, 0, [], [0, 1, 5], (.cons (.v (.sl I)) (.cons (.v (.sl I)) (.cons (.v I) .nil)))⟩ [(.exit 0, ⟨26, 0, [], [], .nil⟩), (.ret, ⟨26, 0, [], [4], (.cons (.v .bool) .nil)⟩)]
  (.seq (.seq (.reg []) (.cond .std .std)) (.seq (.block (.seq (.drw []) (.cond (.seq (.reg []) .std) .std))) (.reg [])))))) (.seq (.reg []) .std))))
noncomputable def wainwrightref01_Same.code : Code := match Tryz.f61.body with | some c => c | none => .skip
theorem wainwrightref01_Same.eq : absFn tt 26 wainwrightref01_Same.ins wainwrightref01_Same.outs wainwrightref01_Same.code wainwrightref01_Same.ann = wainwrightref01_Same := by
  funext a
  kernel_rfl
theorem wainwrightref01_Same.ok : wainwrightref01_Same.ann.ok Tryz.prog 0 26 :=
  ann_ok (by kernel_rfl) (by kernel_rfl) (show ∀ c ∈ ([] : List Callee'), c.ok Tryz.prog from cs_nil)
    (show ∀ c ∈ ([] : List Callee'), FunQuiet c.F from cs_nil)
theorem wainwrightref01_Same.sound : wainwrightref01_Same.c.ok Tryz.prog := by
  refine ⟨?_, Tryz.f61, wainwrightref01_Same.code, Tryz.func61, rfl, by decide⟩
  have h := fn_sound tt_ok mix_ok (x := wainwrightref01_Same.ann) (ins := wainwrightref01_Same.ins) (outs := wainwrightref01_Same.outs) (N := 26) Tryz.func61 (c := wainwrightref01_Same.code) rfl rfl (by kernel_rfl) (by kernel_rfl) wainwrightref01_Same.ok (by decide)
  rw [wainwrightref01_Same.eq] at h
  exact h

/-! ### (*wainwright/wainwrightlaw13.Pair).same: function 45 -/
noncomputable def wainwrightlaw13_Pair_same.l1 : (((Bool × Int) × (List (Int × List UInt8)) × List (List UInt8) × List (List UInt8) × (Int × Int) × List (List UInt8) × List (Int × List UInt8)) × Int) → Option ((((Bool × Int) × (List (Int × List UInt8)) × List (List UInt8) × List (List UInt8) × (Int × Int) × List (List UInt8) × List (Int × List UInt8)) × Int) ⊕ (((Bool × Int) × (List (Int × List UInt8)) × List (List UInt8) × List (List UInt8) × (Int × Int) × List (List UInt8) × List (Int × List UInt8)) ⊕ (((Bool × Int) × (List (Int × List UInt8)) × List (List UInt8) × List (List UInt8) × (Int × Int) × List (List UInt8) × List (Int × List UInt8)) × Bool))) := fun (((o3b, o3c), o4, o5, o6, (o7c, o7d), o8, o9), i3) =>
  if decide (i3 < (o6.length : Int)) = true then
    (deal_Deal_Read_1 ((((o8, o9, o7c, o7d), o3b, o3c), o4), i3)).bind fun (r24, r24_2) =>
      if (r24_2 != 0) = false then
        if 0 ≤ i3 ∧ i3 < (o6.length : Int) then
          if (!(r24 == (o6.getD i3.toNat []))) = true then
            some (.inr (.inr (((((o3b, o3c), o4, o5, o6, (o7c, o7d), o8, o9), false)))))
          else
            some (.inl ((((o3b, o3c), o4, o5, o6, (o7c, o7d), o8, o9), IntKind.i64.wrap (i3 + 1))))
        else none
      else
        some (.inr (.inr (((((o3b, o3c), o4, o5, o6, (o7c, o7d), o8, o9), false)))))
  else
    some (.inr (.inl (((o3b, o3c), o4, o5, o6, (o7c, o7d), o8, o9))))

noncomputable def wainwrightlaw13_Pair_same : ((Bool × Int) × (List (Int × List UInt8)) × List (List UInt8) × List (List UInt8) × (Int × Int) × List (List UInt8) × List (Int × List UInt8)) → Option (((Bool × Int) × (List (Int × List UInt8)) × List (List UInt8) × List (List UInt8) × (Int × Int) × List (List UInt8) × List (Int × List UInt8)) × Bool) := fun ((o3b, o3c), o4, o5, o6, (o7c, o7d), o8, o9) =>
  (loopO wainwrightlaw13_Pair_same.l1 ((((o3b, o3c), o4, o5, o6, (o7c, o7d), o8, o9), 42))).bind fun d => match d with
  | .inl ((o3b, o3c), o4, o5, o6, (o7c, o7d), o8, o9) =>
    (deal_Deal_Changed ((o3b, o3c), o4, (o7c, o7d), o8, o9)).bind fun (((r47, r47_2), r47_3, (r47_4, r47_5), r47_6, r47_7), r47_8) =>
      (wainwrightref12_Deal_Changed_1 (o5, o6)).bind fun ((r52, r52_2), r52_3) =>
        (wainwrightref01_Same (r47_8, r52_3)).bind fun r53 =>
          some (((((r47, r47_2), r47_3, r52, r52_2, (r47_4, r47_5), r47_6, r47_7), r53)))
  | .inr ((((o3b, o3c), o4, o5, o6, (o7c, o7d), o8, o9), t2)) =>
    some (((((o3b, o3c), o4, o5, o6, (o7c, o7d), o8, o9), t2)))

def wainwrightlaw13_Pair_same.ins : Spec := ⟨54, 0, [.box (.cons (.ref 1) (.cons (.ref 2) .nil)), .box (.cons (.ref 3) (.cons (.ref 4) .nil)), .box (.cons (.ref 5) (.cons (.ref 6) .nil)), .box (.cons (.ref 7) (.cons (.v .bool) (.cons (.v I) .nil))), .map I .str, .arr .str, .arr .str, .box (.cons (.ref 8) (.cons (.ref 9) (.cons (.v I) (.cons (.v I) .nil)))), .arr .str, .map I .str], [0], (.cons (.ref 0) .nil)⟩
def wainwrightlaw13_Pair_same.outs : List Spec := [⟨54, 10, [.box (.cons (.ref 1) (.cons (.ref 2) .nil)), .box (.cons (.ref 3) (.cons (.ref 4) .nil)), .box (.cons (.ref 5) (.cons (.ref 6) .nil)), .box (.cons (.ref 7) (.cons (.v .bool) (.cons (.v I) .nil))), .map I .str, .arr .str, .arr .str, .box (.cons (.ref 8) (.cons (.ref 9) (.cons (.v I) (.cons (.v I) .nil)))), .arr .str, .map I .str], [2], (.cons (.v .bool) .nil)⟩]
noncomputable def wainwrightlaw13_Pair_same.c : Callee' := ⟨45, mkFits wainwrightlaw13_Pair_same.ins wainwrightlaw13_Pair_same.outs, mkFun wainwrightlaw13_Pair_same.ins wainwrightlaw13_Pair_same.outs wainwrightlaw13_Pair_same, mkFun_nat _ _ _⟩
noncomputable def wainwrightlaw13_Pair_same.ann : Ann :=
  (.seq (.reg []) (.seq (.seq (.reg []) (.block (.loop ⟨54, 10, [.box (.cons (.ref 1) (.cons (.ref 2) .nil)), .box (.cons (.ref 3) (.cons (.ref 4) .nil)), .box (.cons (.ref 5) (.cons (.ref 6) .nil)), .box (.cons (.ref 7) (.cons (.v .bool) (.cons (.v I) .nil))), .map I .str, .arr .str, .arr .str, .box (.cons (.ref 8) (.cons (.ref 9) (.cons (.v I) (.cons (.v I) .nil)))), .arr .str, .map I .str], [0, 3], (.cons (.ref 0) (.cons (.v I) .nil))⟩ [(.exit 0, ⟨54, 10, [.box (.cons (.ref 1) (.cons (.ref 2) .nil)), .box (.cons (.ref 3) (.cons (.ref 4) .nil)), .box (.cons (.ref 5) (.cons (.ref 6) .nil)), .box (.cons (.ref 7) (.cons (.v .bool) (.cons (.v I) .nil))), .map I .str, .arr .str, .arr .str, .box (.cons (.ref 8) (.cons (.ref 9) (.cons (.v I) (.cons (.v I) .nil)))), .arr .str, .map I .str], [0], (.cons (.ref 0) .nil)⟩), (.ret, ⟨54, 10, [.box (.cons (.ref 1) (.cons (.ref 2) .nil)), .box (.cons (.ref 3) (.cons (.ref 4) .nil)), .box (.cons (.ref 5) (.cons (.ref 6) .nil)), .box (.cons (.ref 7) (.cons (.v .bool) (.cons (.v I) .nil))), .map I .str, .arr .str, .arr .str, .box (.cons (.ref 8) (.cons (.ref 9) (.cons (.v I) (.cons (.v I) .nil)))), .arr .str, .map I .str], [2], (.cons (.v .bool) .nil)⟩)]
  (.seq (.seq (.reg []) (.cond .std .std)) (.seq (.block (.seq (.reg [.std, .std, .std, .std, .std, .callq [deal_Deal_Read_1.c]]) (.seq (.reg []) (.cond (.seq (.reg []) .std) .std)))) (.reg [])))))) (.seq (.drw [.std, .std, .std, .std, .call [deal_Deal_Changed.c], .std, .std, .std, .std, .call [wainwrightref12_Deal_Changed_1.c], .callq [wainwrightref01_Same.c]]) .std)))
noncomputable def wainwrightlaw13_Pair_same.code : Code := match Tryz.f45.body with | some c => c | none => .skip
theorem wainwrightlaw13_Pair_same.eq : absFn tt 54 wainwrightlaw13_Pair_same.ins wainwrightlaw13_Pair_same.outs wainwrightlaw13_Pair_same.code wainwrightlaw13_Pair_same.ann = wainwrightlaw13_Pair_same := by
  funext a
  kernel_rfl
theorem wainwrightlaw13_Pair_same.ok : wainwrightlaw13_Pair_same.ann.ok Tryz.prog 10 54 :=
  ann_ok (by kernel_rfl) (by kernel_rfl) (show ∀ c ∈ ([deal_Deal_Read_1.c, deal_Deal_Changed.c, wainwrightref12_Deal_Changed_1.c, wainwrightref01_Same.c] : List Callee'), c.ok Tryz.prog from cs_cons deal_Deal_Read_1.sound (cs_cons deal_Deal_Changed.sound (cs_cons wainwrightref12_Deal_Changed_1.sound (cs_cons wainwrightref01_Same.sound cs_nil))))
    (show ∀ c ∈ ([deal_Deal_Read_1.c, wainwrightref01_Same.c] : List Callee'), FunQuiet c.F from cs_cons deal_Deal_Read_1.quiet (cs_cons wainwrightref01_Same.quiet cs_nil))
theorem wainwrightlaw13_Pair_same.sound : wainwrightlaw13_Pair_same.c.ok Tryz.prog := by
  refine ⟨?_, Tryz.f45, wainwrightlaw13_Pair_same.code, Tryz.func45, rfl, by decide⟩
  have h := fn_sound tt_ok mix_ok (x := wainwrightlaw13_Pair_same.ann) (ins := wainwrightlaw13_Pair_same.ins) (outs := wainwrightlaw13_Pair_same.outs) (N := 54) Tryz.func45 (c := wainwrightlaw13_Pair_same.code) rfl rfl (by kernel_rfl) (by kernel_rfl) wainwrightlaw13_Pair_same.ok (by decide)
  rw [wainwrightlaw13_Pair_same.eq] at h
  exact h

/-! ### wainwright/wainwrightlaw13.StockPlays: function 9 -/
noncomputable def wainwrightlaw13_StockPlays.l1 : (((Bool × Int) × (List (Int × List UInt8)) × List (List UInt8) × List (List UInt8) × (Int × Int) × List (List UInt8) × List (Int × List UInt8)) × (List (Int × Int)) × Int) → Option ((((Bool × Int) × (List (Int × List UInt8)) × List (List UInt8) × List (List UInt8) × (Int × Int) × List (List UInt8) × List (Int × List UInt8)) × (List (Int × Int)) × Int) ⊕ (((Bool × Int) × (List (Int × List UInt8)) × List (List UInt8) × List (List UInt8) × (Int × Int) × List (List UInt8) × List (Int × List UInt8)) ⊕ Bool)) := fun (((o3b, o3c), o4, o5, o6, (o7c, o7d), o8, o9), script2, i8) =>
  if decide (i8 < (script2.length : Int)) = true then
    if 0 ≤ i8 ∧ i8 < (script2.length : Int) then
      (wainwrightlaw13_Pair_step (((o3b, o3c), o4, o5, o6, (o7c, o7d), o8, o9), (script2.getD i8.toNat (0, 0)).1, (script2.getD i8.toNat (0, 0)).2)).bind fun (((r30, r30_2), r30_3, r30_4, r30_5, (r30_6, r30_7), r30_8, r30_9), r30_10) =>
        if (!r30_10) = true then
          some (.inr (.inr false))
        else
          some (.inl ((((r30, r30_2), r30_3, r30_4, r30_5, (r30_6, r30_7), r30_8, r30_9), script2, IntKind.i64.wrap (i8 + 1))))
    else none
  else
    some (.inr (.inl (((o3b, o3c), o4, o5, o6, (o7c, o7d), o8, o9))))

noncomputable def wainwrightlaw13_StockPlays : (Int × List UInt8 × List (Int × Int)) → Option (Bool) := fun (n0, m1, script2) =>
  (wainwrightlaw13_lives ()).bind fun r9 =>
    if (!r9) = true then
      some false
    else
      (wainwrightlaw13_size n0).bind fun r12 =>
        (wainwrightlaw13_begin (r12, m1)).bind fun d => match d with
        | .inl _ =>
          some false
        | .inr (.inl (r14b, r14_2b)) =>
          (wainwrightlaw13_early script2).bind fun r18 =>
            none
        | .inr (.inr (((r14c, r14_2c), r14_3c, r14_4c, r14_5c, (r14_6c, r14_7c), r14_8c, r14_9c))) =>
          (wainwrightlaw13_early script2).bind fun r18a =>
            (loopO wainwrightlaw13_StockPlays.l1 ((((r14c, r14_2c), r14_3c, r14_4c, r14_5c, (r14_6c, r14_7c), r14_8c, r14_9c), r18a, 0))).bind fun d => match d with
            | .inl ((o3b, o3c), o4, o5, o6, (o7c, o7d), o8, o9) =>
              (wainwrightlaw13_Pair_same ((o3b, o3c), o4, o5, o6, (o7c, o7d), o8, o9)).bind fun (((r33, r33_2), r33_3, r33_4, r33_5, (r33_6, r33_7), r33_8, r33_9), r33_10) =>
                some r33_10
            | .inr t6 =>
              some t6

def wainwrightlaw13_StockPlays.ins : Spec := ⟨34, 0, [], [0, 1, 2], (.cons (.v I) (.cons (.v .str) (.cons (.v (.sl (.st (.pair I I)))) .nil)))⟩
def wainwrightlaw13_StockPlays.outs : List Spec := [⟨34, 0, [], [6], (.cons (.v .bool) .nil)⟩]
noncomputable def wainwrightlaw13_StockPlays.c : Callee' := ⟨9, mkFits wainwrightlaw13_StockPlays.ins wainwrightlaw13_StockPlays.outs, mkFun wainwrightlaw13_StockPlays.ins wainwrightlaw13_StockPlays.outs wainwrightlaw13_StockPlays, mkFun_nat _ _ _⟩
theorem wainwrightlaw13_StockPlays.quiet : FunQuiet wainwrightlaw13_StockPlays.c.F := mkFun_quiet rfl rfl
noncomputable def wainwrightlaw13_StockPlays.ann : Ann :=
  (.seq (.reg []) (.seq (.seq (.reg [.callq [wainwrightlaw13_lives.c]]) (.cond (.seq (.reg []) .std) .std)) (.seq (.reg [.std, .callq [wainwrightlaw13_size.c], .std, .call [wainwrightlaw13_begin.c]]) (.seq (.seq (.reg [.std, .obj .bool]) (.cond (.seq (.reg []) .std) .std)) (.seq (.reg [.std, .callq [wainwrightlaw13_early.c]]) (.seq (.seq (.reg []) (.block (.loop ⟨34, 0, [.box (.cons (.ref 1) (.cons (.ref 2) .nil)), .box (.cons (.ref 3) (.cons (.ref 4) .nil)), .box (.cons (.ref 5) (.cons (.ref 6) .nil)), .box (.cons (.ref 7) (.cons (.v .bool) (.cons (.v I) .nil))), .map I .str, .arr .str, .arr .str, .box (.cons (.ref 8) (.cons (.ref 9) (.cons (.v I) (.cons (.v I) .nil)))), .arr .str, .map I .str], [2, 7, 8], (.cons (.v (.sl (.st (.pair I I)))) (.cons (.ref 0) (.cons (.v I) .nil)))⟩ [(.exit 0, ⟨34, 0, [.box (.cons (.ref 1) (.cons (.ref 2) .nil)), .box (.cons (.ref 3) (.cons (.ref 4) .nil)), .box (.cons (.ref 5) (.cons (.ref 6) .nil)), .box (.cons (.ref 7) (.cons (.v .bool) (.cons (.v I) .nil))), .map I .str, .arr .str, .arr .str, .box (.cons (.ref 8) (.cons (.ref 9) (.cons (.v I) (.cons (.v I) .nil)))), .arr .str, .map I .str], [7], (.cons (.ref 0) .nil)⟩), (.ret, ⟨34, 0, [], [6], (.cons (.v .bool) .nil)⟩)]
  (.seq (.seq (.reg []) (.cond .std .std)) (.seq (.block (.seq (.reg [.std, .std, .std, .std, .std, .call [wainwrightlaw13_Pair_step.c]]) (.cond (.seq (.reg []) .std) .std))) (.reg [])))))) (.seq (.reg [.std, .call [wainwrightlaw13_Pair_same.c]]) .std)))))))
noncomputable def wainwrightlaw13_StockPlays.code : Code := match Tryz.f9.body with | some c => c | none => .skip
theorem wainwrightlaw13_StockPlays.eq : absFn tt 34 wainwrightlaw13_StockPlays.ins wainwrightlaw13_StockPlays.outs wainwrightlaw13_StockPlays.code wainwrightlaw13_StockPlays.ann = wainwrightlaw13_StockPlays := by
  funext a
  kernel_rfl
theorem wainwrightlaw13_StockPlays.ok : wainwrightlaw13_StockPlays.ann.ok Tryz.prog 0 34 :=
  ann_ok (by kernel_rfl) (by kernel_rfl) (show ∀ c ∈ ([wainwrightlaw13_lives.c, wainwrightlaw13_size.c, wainwrightlaw13_begin.c, wainwrightlaw13_early.c, wainwrightlaw13_Pair_step.c, wainwrightlaw13_Pair_same.c] : List Callee'), c.ok Tryz.prog from cs_cons wainwrightlaw13_lives.sound (cs_cons wainwrightlaw13_size.sound (cs_cons wainwrightlaw13_begin.sound (cs_cons wainwrightlaw13_early.sound (cs_cons wainwrightlaw13_Pair_step.sound (cs_cons wainwrightlaw13_Pair_same.sound cs_nil))))))
    (show ∀ c ∈ ([wainwrightlaw13_lives.c, wainwrightlaw13_size.c, wainwrightlaw13_early.c] : List Callee'), FunQuiet c.F from cs_cons wainwrightlaw13_lives.quiet (cs_cons wainwrightlaw13_size.quiet (cs_cons wainwrightlaw13_early.quiet cs_nil)))
theorem wainwrightlaw13_StockPlays.sound : wainwrightlaw13_StockPlays.c.ok Tryz.prog := by
  refine ⟨?_, Tryz.f9, wainwrightlaw13_StockPlays.code, Tryz.func9, rfl, by decide⟩
  have h := fn_sound tt_ok mix_ok (x := wainwrightlaw13_StockPlays.ann) (ins := wainwrightlaw13_StockPlays.ins) (outs := wainwrightlaw13_StockPlays.outs) (N := 34) Tryz.func9 (c := wainwrightlaw13_StockPlays.code) rfl rfl (by kernel_rfl) (by kernel_rfl) wainwrightlaw13_StockPlays.ok (by decide)
  rw [wainwrightlaw13_StockPlays.eq] at h
  exact h

end Go.Proofs.YtiodpeekbeahlaaGreatDoor.Abs
