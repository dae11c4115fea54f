/- The functions as the abstract machine computes them: printed by gen2.py (own work). -/
import Derived.Test.YtlbammfnkphajaaGreatDoorCh
namespace Go.Proofs.YtlbammfnkphajaaGreatDoor.Abs
open Go Go.Proofs
open _root_.Go.IntKind (i64 u8 u32 u64)
noncomputable section
set_option maxRecDepth 100000
set_option linter.unusedVariables false


def lw14_ChainsBack.l3 : ((tC × (Bool × Int) × (tL) × (Int × Int) × tS × tL) × List (tI) × Int × tI × Int × tI × Int × Int) → Option (((tC × (Bool × Int) × (tL) × (Int × Int) × tS × tL) × List (tI) × Int × tI × Int × tI × Int × Int) ⊕ (((tC × (Bool × Int) × (tL) × (Int × Int) × tS × tL) × List (tI) × Int × tI × Int × tI × Int) ⊕ Bool)) := fun (((c6a, c6b, c6c, c6d, c6e, c6f, c6g, c6h, c6i), (o2b, o2c), o3, (o4c, o4d), o5, o6), maps0, n1, now7, i8, lists21, k23, q26) =>
 if decide (q26 < k23) = true then
  if 0 ≤ q26 ∧ q26 < (lists21.length : Int) then
   if 0 ≤ k23 ∧ k23 < (lists21.length : Int) then
    if (lists21.getD q26.toNat 0 == lists21.getD k23.toNat 0) = true then
     some (.inr (.inr false))
    else
     some (.inl ((((c6a, c6b, c6c, c6d, c6e, c6f, c6g, c6h, c6i), (o2b, o2c), o3, (o4c, o4d), o5, o6), maps0, n1, now7, i8, lists21, k23, i64.wrap (q26 + 1))))
   else none
  else none
 else
  some (.inr (.inl ((((c6a, c6b, c6c, c6d, c6e, c6f, c6g, c6h, c6i), (o2b, o2c), o3, (o4c, o4d), o5, o6), maps0, n1, now7, i8, lists21, k23))))

def lw14_ChainsBack.l2 : ((tC × (Bool × Int) × (tL) × (Int × Int) × tS × tL) × List (tI) × Int × tI × Int × tI × Int) → Option (((tC × (Bool × Int) × (tL) × (Int × Int) × tS × tL) × List (tI) × Int × tI × Int × tI × Int) ⊕ (((tC × (Bool × Int) × (tL) × (Int × Int) × tS × tL) × List (tI) × Int × tI × Int) ⊕ Bool)) := fun (((c6a, c6b, c6c, c6d, c6e, c6f, c6g, c6h, c6i), (o2b, o2c), o3, (o4c, o4d), o5, o6), maps0, n1, now7, i8, lists21, k23) =>
 if decide (k23 < (lists21.length : Int)) = true then
  if 0 ≤ k23 ∧ k23 < (lists21.length : Int) then
   (stock_Used (((o2b, o2c), o3, (o4c, o4d), o5, o6), lists21.getD k23.toNat 0)).bind fun (((r166, r166_2), r166_3, (r166_4, r166_5), r166_6, r166_7), r166_8, r166_9) =>
    if (!r166_8) = false then
     if (r166_9 != 0) = true then
      some (.inr (.inr false))
     else
      (loopO lw14_ChainsBack.l3 ((((c6a, c6b, c6c, c6d, c6e, c6f, c6g, c6h, c6i), (r166, r166_2), r166_3, (r166_4, r166_5), r166_6, r166_7), maps0, n1, now7, i8, lists21, k23, 0))).bind fun d => match d with
      | .inl (((c6a, c6b, c6c, c6d, c6e, c6f, c6g, c6h, c6i), (o2b, o2c), o3, (o4c, o4d), o5, o6), maps0, n1, now7, i8, lists21, k23) =>
       some (.inl ((((c6a, c6b, c6c, c6d, c6e, c6f, c6g, c6h, c6i), (o2b, o2c), o3, (o4c, o4d), o5, o6), maps0, n1, now7, i8, lists21, i64.wrap (k23 + 1))))
      | .inr t4 =>
       some (.inr (.inr t4))
    else
     some (.inr (.inr false))
  else none
 else
  some (.inr (.inl ((((c6a, c6b, c6c, c6d, c6e, c6f, c6g, c6h, c6i), (o2b, o2c), o3, (o4c, o4d), o5, o6), maps0, n1, now7, i8))))

def lw14_ChainsBack.l1 : ((tC × (Bool × Int) × (tL) × (Int × Int) × tS × tL) × List (tI) × Int × tI × Int) → Option (((tC × (Bool × Int) × (tL) × (Int × Int) × tS × tL) × List (tI) × Int × tI × Int) ⊕ (tC ⊕ Bool)) := fun (((c6a, c6b, c6c, c6d, c6e, c6f, c6g, c6h, c6i), (o2b, o2c), o3, (o4c, o4d), o5, o6), maps0, n1, now7, i8) =>
 if decide (i8 < (maps0.length : Int)) = true then
  if decide (i8 < 12) = true then
   if 0 ≤ i8 ∧ i8 < (maps0.length : Int) then
    (lw14_inside (maps0.getD i8.toNat [], n1)).bind fun r54 =>
     (deal_Deal_Changed ((o2b, o2c), o3, (o4c, o4d), o5, o6)).bind fun (((r56, r56_2), r56_3, (r56_4, r56_5), r56_6, r56_7), r56_8) =>
      (stock_Free ((r56, r56_2), r56_3, (r56_4, r56_5), r56_6, r56_7)).bind fun (((r59, r59_2), r59_3, (r59_4, r59_5), r59_6, r59_7), r59_8, r59_9) =>
       (chains_Save (((r59, r59_2), r59_3, (r59_4, r59_5), r59_6, r59_7), (c6a, c6b, c6c, c6d, c6e, c6f, c6g, c6h, c6i), r54)).bind fun (((r66, r66_2), r66_3, (r66_4, r66_5), r66_6, r66_7), r66_8, r66_9) =>
        (rf14_Lists r54).bind fun r70 =>
         (stock_Free ((r66, r66_2), r66_3, (r66_4, r66_5), r66_6, r66_7)).bind fun (((r73, r73_2), r73_3, (r73_4, r73_5), r73_6, r73_7), r73_8, r73_9) =>
          if decide (r70 < 0) = true then
           if (r66_9 != 12) = false then
            (deal_Deal_Changed ((r73, r73_2), r73_3, (r73_4, r73_5), r73_6, r73_7)).bind fun (((r83, r83_2), r83_3, (r83_4, r83_5), r83_6, r83_7), r83_8) =>
             (rf01_Same (r56_8, r83_8)).bind fun r84 =>
              if (!r84) = true then
               some (.inr (.inr false))
              else
               some (.inl ((((c6a, c6b, c6c, c6d, c6e, c6f, c6g, c6h, c6i), (r83, r83_2), r83_3, (r83_4, r83_5), r83_6, r83_7), maps0, n1, now7, i64.wrap (i8 + 1))))
           else
            some (.inr (.inr false))
          else
           (rf14_Lists now7).bind fun r89 =>
            if decide (r70 > i64.wrap (r59_8 + r89)) = true then
             if (r66_9 != 10) = false then
              if (r73_8 != r59_8) = false then
               (deal_Deal_Changed ((r73, r73_2), r73_3, (r73_4, r73_5), r73_6, r73_7)).bind fun (((r104, r104_2), r104_3, (r104_4, r104_5), r104_6, r104_7), r104_8) =>
                (rf01_Same (r56_8, r104_8)).bind fun r105 =>
                 if (!r105) = true then
                  some (.inr (.inr false))
                 else
                  some (.inl ((((c6a, c6b, c6c, c6d, c6e, c6f, c6g, c6h, c6i), (r104, r104_2), r104_3, (r104_4, r104_5), r104_6, r104_7), maps0, n1, now7, i64.wrap (i8 + 1))))
              else
               some (.inr (.inr false))
             else
              some (.inr (.inr false))
            else
             if (r66_9 != 0) = false then
              if (r73_9 != 0) = false then
               if (r73_8 != i64.wrap ((i64.wrap (r59_8 + r89)) - r70)) = true then
                some (.inr (.inr false))
               else
                (chains_Load_1 (((r73, r73_2), r73_3, (r73_4, r73_5), r73_6, r73_7), r66_8)).bind fun (((r126, r126_2), r126_3, (r126_4, r126_5), r126_6, r126_7), r126_8, r126_9) =>
                 (chains_Lists_1 (((r126, r126_2), r126_3, (r126_4, r126_5), r126_6, r126_7), r66_8)).bind fun (((r132, r132_2), r132_3, (r132_4, r132_5), r132_6, r132_7), r132_8, r132_9) =>
                  if (r126_9 != 0) = false then
                   if (r132_9 != 0) = false then
                    (lw14_wide r54).bind fun r144 =>
                     (rf01_Same (r126_8, r144)).bind fun r145 =>
                      if (!r145) = false then
                       if ((r132_8.length : Int) != r70) = true then
                        some (.inr (.inr false))
                       else
                        (loopO lw14_ChainsBack.l2 (((r66_8, (r132, r132_2), r132_3, (r132_4, r132_5), r132_6, r132_7), maps0, n1, r54, i8, r132_8, 0))).bind fun d => match d with
                        | .inl (((c6a, c6b, c6c, c6d, c6e, c6f, c6g, c6h, c6i), (o2b, o2c), o3, (o4c, o4d), o5, o6), maps0, n1, now7, i8) =>
                         some (.inl ((((c6a, c6b, c6c, c6d, c6e, c6f, c6g, c6h, c6i), (o2b, o2c), o3, (o4c, o4d), o5, o6), maps0, n1, now7, i64.wrap (i8 + 1))))
                        | .inr t4 =>
                         some (.inr (.inr t4))
                      else
                       some (.inr (.inr false))
                   else
                    some (.inr (.inr false))
                  else
                   some (.inr (.inr false))
              else
               some (.inr (.inr false))
             else
              some (.inr (.inr false))
   else none
  else
   some (.inr (.inl ((c6a, c6b, c6c, c6d, c6e, c6f, c6g, c6h, c6i))))
 else
  some (.inr (.inl ((c6a, c6b, c6c, c6d, c6e, c6f, c6g, c6h, c6i))))

def lw14_ChainsBack : (List (tI) × Int) → Option (Bool) := fun (maps0, n1) =>
 (lw14_lives ()).bind fun r27 =>
  if (!r27) = true then
   some false
  else
   (lw14_begin (i64.wrap (64 + (i64.wrap (Int.tmod (u64.wrap (n1)) 337))))).bind fun d => match d with
   | .inl _ =>
    some false
   | .inr (((r35b, r35_2b), r35_3b, (r35_4b, r35_5b), r35_6b, r35_7b)) =>
    (lw14_fresh ()).bind fun r38 =>
     (loopO lw14_ChainsBack.l1 (((r38, (r35b, r35_2b), r35_3b, (r35_4b, r35_5b), r35_6b, r35_7b), maps0, i64.wrap (64 + (i64.wrap (Int.tmod (u64.wrap (n1)) 337))), ([] : tI), 0))).bind fun d => match d with
     | .inl (c6a, c6b, c6c, c6d, c6e, c6f, c6g, c6h, c6i) =>
      (rf09_Right (c6a, c6b, c6c, c6d, c6e, c6f, c6g, c6h, c6i)).bind fun r190 =>
       some r190
     | .inr t4 =>
      some t4

def lw14_ChainsBack.ins : Spec := ⟨191, 0, [], [0, 1], (.cons (.v (.sl (.sl I))) (.cons (.v I) .nil))⟩
def lw14_ChainsBack.outs : List Spec := [⟨191, 0, [], [4], (.cons (.v .bool) .nil)⟩]
def lw14_ChainsBack.c : Callee' := mkC 10 lw14_ChainsBack.ins lw14_ChainsBack.outs lw14_ChainsBack
theorem lw14_ChainsBack.quiet : FunQuiet lw14_ChainsBack.c.F := mkFun_quiet rfl rfl
def lw14_ChainsBack.ann : Ann :=
  (.z (.seq (.seq (.reg [.callq [lw14_lives.c]]) (.cond (.z .std) .std)) (.z (.seq (.reg [.std, .call [lw14_begin.c]]) (.seq (.seq (.reg [.std, .obj .bool]) (.cond (.z .std) .std)) (.seq (.reg [.callq [lw14_fresh.c]]) (.z (.seq (.z (.block (.loop ⟨191, 0, [.box (cr 2 (cr 3 .nil)), .box (cI (cI (cI (cI (.cons (.v (.sl I)) (cI (cI (.cons (.v (.sl (.st (.pair I (.pair I I))))) (cI .nil))))))))), .box (cr 4 (cB (cI .nil))), .map I .str, .box (cr 5 (cr 6 (cI (cI .nil)))), .arr .str, .map I .str], [0, 1, 5, 6, 7, 8], (.cons (.v (.sl (.sl I))) (cI (cr 0 (cr 1 (.cons (.v (.sl I)) (cI .nil))))))⟩ [(.exit 0, ⟨191, 0, [.box (cI (cI (cI (cI (.cons (.v (.sl I)) (cI (cI (.cons (.v (.sl (.st (.pair I (.pair I I))))) (cI .nil)))))))))], [6], (cr 0 .nil)⟩), (.ret, ⟨191, 0, [], [4], (cB .nil)⟩)]
  (.seq (.z (.cond .std .std)) (.seq (.block (.seq (.rq 5 lw14_inside.c) (.seq (.reg [.std, .call [deal_Deal_Changed.c]]) (.seq (.reg [.std, .call [stock_Free.c]]) (.seq (.reg [.std, .std, .std, .call [chains_Save.c]]) (.seq (.reg [.std, .callq [rf14_Lists.c]]) (.seq (.reg [.std, .call [stock_Free.c]]) (.seq (.z (.cond (.seq (.seq (.reg [.std, .std, .std, .std, .std, .call [deal_Deal_Changed.c], .callq [rf01_Same.c]]) (.cond (.z .std) .std)) .std) .std)) (.seq (.rq 2 rf14_Lists.c) (.seq (.z (.cond (.seq (.seq (.reg [.std, .std, .std, .std, .std, .std, .std, .std, .std, .std, .call [deal_Deal_Changed.c], .callq [rf01_Same.c]]) (.cond (.z .std) .std)) .std) .std)) (.seq (.z (.cond (.z .std) .std)) (.z (.z (.seq (.reg [.std, .std, .call [chains_Load_1.c]]) (.seq (.reg [.std, .std, .call [chains_Lists_1.c]]) (.seq (.seq (.reg [.std, .std, .std, .std, .std, .std, .std, .std, .std, .callq [lw14_wide.c], .callq [rf01_Same.c]]) (.cond (.z .std) .std)) (.z (.block (.loop ⟨191, 0, [.box (cr 2 (cr 3 .nil)), .box (cI (cI (cI (cI (.cons (.v (.sl I)) (cI (cI (.cons (.v (.sl (.st (.pair I (.pair I I))))) (cI .nil))))))))), .box (cr 4 (cB (cI .nil))), .map I .str, .box (cr 5 (cr 6 (cI (cI .nil)))), .arr .str, .map I .str], [0, 1, 5, 6, 7, 8, 21, 23], (.cons (.v (.sl (.sl I))) (cI (cr 0 (cr 1 (.cons (.v (.sl I)) (cI (.cons (.v (.sl I)) (cI .nil))))))))⟩ [(.exit 2, ⟨191, 0, [.box (cr 2 (cr 3 .nil)), .box (cI (cI (cI (cI (.cons (.v (.sl I)) (cI (cI (.cons (.v (.sl (.st (.pair I (.pair I I))))) (cI .nil))))))))), .box (cr 4 (cB (cI .nil))), .map I .str, .box (cr 5 (cr 6 (cI (cI .nil)))), .arr .str, .map I .str], [0, 1, 5, 6, 7, 8], (.cons (.v (.sl (.sl I))) (cI (cr 0 (cr 1 (.cons (.v (.sl I)) (cI .nil))))))⟩), (.ret, ⟨191, 0, [], [4], (cB .nil)⟩)]
  (.seq (.z (.cond .std .std)) (.seq (.block (.seq (.reg [.std, .std, .std, .std, .std, .call [stock_Used.c]]) (.seq (.z (.cond (.z .std) .std)) (.z (.block (.loop ⟨191, 0, [.box (cr 2 (cr 3 .nil)), .box (cI (cI (cI (cI (.cons (.v (.sl I)) (cI (cI (.cons (.v (.sl (.st (.pair I (.pair I I))))) (cI .nil))))))))), .box (cr 4 (cB (cI .nil))), .map I .str, .box (cr 5 (cr 6 (cI (cI .nil)))), .arr .str, .map I .str], [0, 1, 5, 6, 7, 8, 21, 23, 26], (.cons (.v (.sl (.sl I))) (cI (cr 0 (cr 1 (.cons (.v (.sl I)) (cI (.cons (.v (.sl I)) (cI (cI .nil)))))))))⟩ [(.exit 4, ⟨191, 0, [.box (cr 2 (cr 3 .nil)), .box (cI (cI (cI (cI (.cons (.v (.sl I)) (cI (cI (.cons (.v (.sl (.st (.pair I (.pair I I))))) (cI .nil))))))))), .box (cr 4 (cB (cI .nil))), .map I .str, .box (cr 5 (cr 6 (cI (cI .nil)))), .arr .str, .map I .str], [0, 1, 5, 6, 7, 8, 21, 23], (.cons (.v (.sl (.sl I))) (cI (cr 0 (cr 1 (.cons (.v (.sl I)) (cI (.cons (.v (.sl I)) (cI .nil))))))))⟩), (.ret, ⟨191, 0, [], [4], (cB .nil)⟩)]
  (.seq (.z (.cond .std .std)) (.seq (.block (.seq (.drw []) (.cond (.z .std) .std))) (.reg []))))))))) (.reg [])))))))))))))))))))))) (.reg [])))))) (.seq (.reg [.std, .callq [rf09_Right.c]]) .std)))))))))
theorem lw14_ChainsBack.eq : absFn tt 191 lw14_ChainsBack.ins lw14_ChainsBack.outs (bodyOf Tryz.f10) lw14_ChainsBack.ann = lw14_ChainsBack := by
  funext a
  kernel_rfl
theorem lw14_ChainsBack.ok : lw14_ChainsBack.ann.ok Tryz.prog 0 191 :=
  ann_ok (by kernel_rfl) (by kernel_rfl) (cs_cons lw14_lives.s (cs_cons lw14_begin.s (cs_cons lw14_fresh.s (cs_cons lw14_inside.s (cs_cons deal_Deal_Changed.s (cs_cons stock_Free.s (cs_cons chains_Save.s (cs_cons rf14_Lists.s (cs_cons stock_Free.s (cs_cons deal_Deal_Changed.s (cs_cons rf01_Same.s (cs_cons rf14_Lists.s (cs_cons deal_Deal_Changed.s (cs_cons rf01_Same.s (cs_cons chains_Load_1.s (cs_cons chains_Lists_1.s (cs_cons lw14_wide.s (cs_cons rf01_Same.s (cs_cons stock_Used.s (cs_cons rf09_Right.s cs_nil)))))))))))))))))))) (cs_cons lw14_lives.q (cs_cons lw14_fresh.q (cs_cons lw14_inside.q (cs_cons rf14_Lists.q (cs_cons rf01_Same.q (cs_cons rf14_Lists.q (cs_cons rf01_Same.q (cs_cons lw14_wide.q (cs_cons rf01_Same.q (cs_cons rf09_Right.q cs_nil))))))))))
theorem lw14_ChainsBack.sound : lw14_ChainsBack.c.ok Tryz.prog := snd tt_ok mix_ok lw14_ChainsBack.eq lw14_ChainsBack.ok Tryz.func10 rfl rfl (by kernel_rfl) (by kernel_rfl) (by decide) (by decide)

end
end Go.Proofs.YtlbammfnkphajaaGreatDoor.Abs
