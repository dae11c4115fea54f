/- The functions as the abstract machine computes them: printed by gen2.py (own work). -/
import Derived.Test.YtiodpeekbeahlaaGreatDoorAbsStrs
import Derived.Test.YtiodpeekbeahlaaGreatDoorAbsSortedKeys
import Derived.Test.YtiodpeekbeahlaaGreatDoorImageF
import Derived.Test.YtiodpeekbeahlaaGreatDoorAbsSlabQuiet
import Derived.Test.YtiodpeekbeahlaaGreatDoorAbsFnR
import Derived.Test.YtiodpeekbeahlaaGreatDoorProg
import Derived.Test.YtiodpeekbeahlaaGreatDoorAbsFn
import Derived.KernelRfl
namespace Go.Proofs.YtiodpeekbeahlaaGreatDoor.Abs
open Go Go.Proofs
open _root_.Go.IntKind (i64 u8 u32 u64)
noncomputable section
abbrev I := Ty.int .i64
set_option maxRecDepth 100000
set_option linter.unusedVariables false

def tt : Nat → TI
  | 3 => ⟨.int .i64, 1, 8, [.int .i64 0]⟩
  | 4 => ⟨.bool, 1, 1, [.bool false]⟩
  | 5 => ⟨.int .u8, 1, 1, [.int .u8 0]⟩
  | 9 => ⟨.str, 1, 16, [.string .empty]⟩
  | 22 => ⟨.sl 3, 1, 24, [.slice none 0 0]⟩
  | 23 => ⟨.sl 5, 1, 24, [.slice none 0 0]⟩
  | 27 => ⟨.ptr 117, 1, 8, [.pointer none]⟩
  | 28 => ⟨.int .i64, 1, 8, [.int .i64 0]⟩
  | 33 => ⟨.sl 115, 1, 24, [.slice none 0 0]⟩
  | 39 => ⟨.int .u64, 1, 8, [.int .u64 0]⟩
  | 40 => ⟨.ptr 126, 1, 8, [.pointer none]⟩
  | 42 => ⟨.sl 9, 1, 24, [.slice none 0 0]⟩
  | 65 => ⟨.ptr 153, 1, 8, [.pointer none]⟩
  | 81 => ⟨.st [(3, 0), (3, 1), (3, 2)], 3, 24, [.int .i64 0, .int .i64 0, .int .i64 0]⟩
  | 82 => ⟨.sl 190, 1, 24, [.slice none 0 0]⟩
  | 84 => ⟨.st [(3, 0), (3, 1), (3, 2), (3, 3), (22, 4), (3, 5), (3, 6), (82, 7), (3, 8)], 9, 104, [.int .i64 0, .int .i64 0, .int .i64 0, .int .i64 0, .slice none 0 0, .int .i64 0, .int .i64 0, .slice none 0 0, .int .i64 0]⟩
  | 86 => ⟨.st [(3, 0), (3, 1), (9, 2), (81, 3), (84, 6)], 15, 160, [.int .i64 0, .int .i64 0, .string .empty, .int .i64 0, .int .i64 0, .int .i64 0, .int .i64 0, .int .i64 0, .int .i64 0, .int .i64 0, .slice none 0 0, .int .i64 0, .int .i64 0, .slice none 0 0, .int .i64 0]⟩
  | 98 => ⟨.sl 86, 1, 24, [.slice none 0 0]⟩
  | 106 => ⟨.st [(42, 0), (42, 1)], 2, 48, [.slice none 0 0, .slice none 0 0]⟩
  | 108 => ⟨.sl 84, 1, 24, [.slice none 0 0]⟩
  | 115 => ⟨.st [(3, 0), (9, 1)], 2, 24, [.int .i64 0, .string .empty]⟩
  | 117 => ⟨.st [(40, 0), (4, 1), (3, 2)], 3, 24, [.pointer none, .bool false, .int .i64 0]⟩
  | 124 => ⟨.map 3 9, 1, 8, [.map none]⟩
  | 126 => ⟨.st [(42, 0), (124, 1), (3, 2), (3, 3)], 4, 48, [.slice none 0 0, .map none, .int .i64 0, .int .i64 0]⟩
  | 151 => ⟨.st [(27, 0), (124, 1)], 2, 16, [.pointer none, .map none]⟩
  | 153 => ⟨.st [(151, 0)], 2, 16, [.pointer none, .map none]⟩
  | 171 => ⟨.sl 172, 1, 24, [.slice none 0 0]⟩
  | 172 => ⟨.func, 1, 8, [.nilFunc]⟩
  | 190 => ⟨.st [(3, 0), (3, 1), (3, 2)], 3, 24, [.int .i64 0, .int .i64 0, .int .i64 0]⟩
  | 195 => ⟨.arr 256 4, 256, 256, [.bool false, .bool false, .bool false, .bool false, .bool false, .bool false, .bool false, .bool false, .bool false, .bool false, .bool false, .bool false, .bool false, .bool false, .bool false, .bool false, .bool false, .bool false, .bool false, .bool false, .bool false, .bool false, .bool false, .bool false, .bool false, .bool false, .bool false, .bool false, .bool false, .bool false, .bool false, .bool false, .bool false, .bool false, .bool false, .bool false, .bool false, .bool false, .bool false, .bool false, .bool false, .bool false, .bool false, .bool false, .bool false, .bool false, .bool false, .bool false, .bool false, .bool false, .bool false, .bool false, .bool false, .bool false, .bool false, .bool false, .bool false, .bool false, .bool false, .bool false, .bool false, .bool false, .bool false, .bool false, .bool false, .bool false, .bool false, .bool false, .bool false, .bool false, .bool false, .bool false, .bool false, .bool false, .bool false, .bool false, .bool false, .bool false, .bool false, .bool false, .bool false, .bool false, .bool false, .bool false, .bool false, .bool false, .bool false, .bool false, .bool false, .bool false, .bool false, .bool false, .bool false, .bool false, .bool false, .bool false, .bool false, .bool false, .bool false, .bool false, .bool false, .bool false, .bool false, .bool false, .bool false, .bool false, .bool false, .bool false, .bool false, .bool false, .bool false, .bool false, .bool false, .bool false, .bool false, .bool false, .bool false, .bool false, .bool false, .bool false, .bool false, .bool false, .bool false, .bool false, .bool false, .bool false, .bool false, .bool false, .bool false, .bool false, .bool false, .bool false, .bool false, .bool false, .bool false, .bool false, .bool false, .bool false, .bool false, .bool false, .bool false, .bool false, .bool false, .bool false, .bool false, .bool false, .bool false, .bool false, .bool false, .bool false, .bool false, .bool false, .bool false, .bool false, .bool false, .bool false, .bool false, .bool false, .bool false, .bool false, .bool false, .bool false, .bool false, .bool false, .bool false, .bool false, .bool false, .bool false, .bool false, .bool false, .bool false, .bool false, .bool false, .bool false, .bool false, .bool false, .bool false, .bool false, .bool false, .bool false, .bool false, .bool false, .bool false, .bool false, .bool false, .bool false, .bool false, .bool false, .bool false, .bool false, .bool false, .bool false, .bool false, .bool false, .bool false, .bool false, .bool false, .bool false, .bool false, .bool false, .bool false, .bool false, .bool false, .bool false, .bool false, .bool false, .bool false, .bool false, .bool false, .bool false, .bool false, .bool false, .bool false, .bool false, .bool false, .bool false, .bool false, .bool false, .bool false, .bool false, .bool false, .bool false, .bool false, .bool false, .bool false, .bool false, .bool false, .bool false, .bool false, .bool false, .bool false, .bool false, .bool false, .bool false, .bool false, .bool false, .bool false, .bool false, .bool false, .bool false, .bool false, .bool false, .bool false, .bool false, .bool false, .bool false, .bool false, .bool false, .bool false, .bool false, .bool false, .bool false, .bool false, .bool false, .bool false, .bool false]⟩
  | 200 => ⟨.map 3 3, 1, 8, [.map none]⟩
  | 222 => ⟨.int .u32, 1, 4, [.int .u32 0]⟩
  | 225 => ⟨.int .u64, 1, 8, [.int .u64 0]⟩
  | 244 => ⟨.sl 22, 1, 24, [.slice none 0 0]⟩
  | 248 => ⟨.arr 7 3, 7, 56, [.int .i64 0, .int .i64 0, .int .i64 0, .int .i64 0, .int .i64 0, .int .i64 0, .int .i64 0]⟩
  | _ => ⟨.other, 0, 0, []⟩
theorem tt_ok : TTok Tryz.prog tt := by
  intro t
  unfold tt
  split
  · exact .inr (ti_ok (d := .int .i64) (by kernel_rfl) (by simp [TK.fits]) (by kernel_rfl))
  · exact .inr (ti_ok (d := .bool) (by kernel_rfl) (by simp [TK.fits]) (by kernel_rfl))
  · exact .inr (ti_ok (d := .int .u8) (by kernel_rfl) (by simp [TK.fits]) (by kernel_rfl))
  · exact .inr (ti_ok (d := .string) (by kernel_rfl) (by simp [TK.fits]) (by kernel_rfl))
  · exact .inr (ti_ok (d := .slice 3) (by kernel_rfl) (by simp [TK.fits]) (by kernel_rfl))
  · exact .inr (ti_ok (d := .slice 5) (by kernel_rfl) (by simp [TK.fits]) (by kernel_rfl))
  · exact .inr (ti_ok (d := .pointer 117) (by kernel_rfl) (by simp [TK.fits]) (by kernel_rfl))
  · exact .inr (ti_ok (d := .int .i64) (by kernel_rfl) (by simp [TK.fits]) (by kernel_rfl))
  · exact .inr (ti_ok (d := .slice 115) (by kernel_rfl) (by simp [TK.fits]) (by kernel_rfl))
  · exact .inr (ti_ok (d := .int .u64) (by kernel_rfl) (by simp [TK.fits]) (by kernel_rfl))
  · exact .inr (ti_ok (d := .pointer 126) (by kernel_rfl) (by simp [TK.fits]) (by kernel_rfl))
  · exact .inr (ti_ok (d := .slice 9) (by kernel_rfl) (by simp [TK.fits]) (by kernel_rfl))
  · exact .inr (ti_ok (d := .pointer 153) (by kernel_rfl) (by simp [TK.fits]) (by kernel_rfl))
  · exact .inr (ti_ok_st (by kernel_rfl) (by kernel_rfl))
  · exact .inr (ti_ok (d := .slice 190) (by kernel_rfl) (by simp [TK.fits]) (by kernel_rfl))
  · exact .inr (ti_ok_st (by kernel_rfl) (by kernel_rfl))
  · exact .inr (ti_ok_st (by kernel_rfl) (by kernel_rfl))
  · exact .inr (ti_ok (d := .slice 86) (by kernel_rfl) (by simp [TK.fits]) (by kernel_rfl))
  · exact .inr (ti_ok_st (by kernel_rfl) (by kernel_rfl))
  · exact .inr (ti_ok (d := .slice 84) (by kernel_rfl) (by simp [TK.fits]) (by kernel_rfl))
  · exact .inr (ti_ok_st (by kernel_rfl) (by kernel_rfl))
  · exact .inr (ti_ok_st (by kernel_rfl) (by kernel_rfl))
  · exact .inr (ti_ok (d := .map 3 9) (by kernel_rfl) (by simp [TK.fits]) (by kernel_rfl))
  · exact .inr (ti_ok_st (by kernel_rfl) (by kernel_rfl))
  · exact .inr (ti_ok_st (by kernel_rfl) (by kernel_rfl))
  · exact .inr (ti_ok_st (by kernel_rfl) (by kernel_rfl))
  · exact .inr (ti_ok (d := .slice 172) (by kernel_rfl) (by simp [TK.fits]) (by kernel_rfl))
  · exact .inr (ti_ok_fn (by kernel_rfl) rfl (by kernel_rfl))
  · exact .inr (ti_ok_st (by kernel_rfl) (by kernel_rfl))
  · exact .inr (ti_ok (d := .array 256 4) (by kernel_rfl) (by simp [TK.fits]) (by kernel_rfl))
  · exact .inr (ti_ok (d := .map 3 3) (by kernel_rfl) (by simp [TK.fits]) (by kernel_rfl))
  · exact .inr (ti_ok (d := .int .u32) (by kernel_rfl) (by simp [TK.fits]) (by kernel_rfl))
  · exact .inr (ti_ok (d := .int .u64) (by kernel_rfl) (by simp [TK.fits]) (by kernel_rfl))
  · exact .inr (ti_ok (d := .slice 22) (by kernel_rfl) (by simp [TK.fits]) (by kernel_rfl))
  · exact .inr (ti_ok (d := .array 7 3) (by kernel_rfl) (by simp [TK.fits]) (by kernel_rfl))
  · exact .inl rfl
theorem mix_ok : Tryz.prog.follows .mixedOrders = true := by kernel_rfl

abbrev tB := List UInt8
abbrev tS := List (List UInt8)
abbrev tL := List (Int × List UInt8)
abbrev tI := List Int
abbrev tC := Int × Int × Int × Int × List Int × Int × Int × (List (Int × Int × Int)) × Int
abbrev zC : tC := (0, 0, 0, 0, ([] : List Int), 0, 0, ([] : List (Int × Int × Int)), 0)
abbrev yC : Ty := .st (.pair I (.pair I (.pair I (.pair I (.pair (.sl I) (.pair I (.pair I (.pair (.sl (.st (.pair I (.pair I I)))) I))))))))
abbrev cI (l : Sh) : Sh := .cons (.v I) l
abbrev cS (l : Sh) : Sh := .cons (.v .str) l
abbrev cB (l : Sh) : Sh := .cons (.v .bool) l
abbrev cr (n : Nat) (l : Sh) : Sh := .cons (.ref n) l
abbrev Ann.z (a : Ann) : Ann := .seq (.reg []) a
abbrev Ann.zs (a : Ann) : Ann := .seq .std a
abbrev Ann.rq (n : Nat) (c : Callee') : Ann := .reg (List.replicate n .std ++ [.callq [c]])
theorem kn {Q : Callee' → Prop} : ∀ c ∈ ([] : List Callee'), Q c := cs_nil
theorem kc {Q : Callee' → Prop} {c : Callee'} {l : List Callee'} (h1 : Q c) (t : ∀ x ∈ l, Q x) : ∀ x ∈ c :: l, Q x := cs_cons h1 t
theorem sd {fid : Nat} {fn : Func} {ins : Spec} {outs : List Spec} {X : ins.D → Option (OutD outs)} (N : Nat) (x : Ann) (h3 : ∀ c ∈ x.callees, c.ok Tryz.prog) (h4 : ∀ c ∈ x.quiets, FunQuiet c.F) (hf : Tryz.prog.funcs[fid]? = some fn) (he : absFn tt N ins outs (bodyOf fn) x = X := by (funext a; kernel_rfl)) (h1 : x.specsOk ins.objs.length N = true := by kernel_rfl) (h2 : x.eqTs.all (eqTypeB Tryz.prog) = true := by kernel_rfl) (hb : fn.body = some (bodyOf fn) := by rfl) (hN : fn.ntmps = N := by rfl) (hres : outs.all (fun o => decide (fn.results.size = o.slots.length) && (List.range o.slots.length).all fun i => match fn.results[i]?, o.slots[i]? with | some (.tmp t), some s => t == s | _, _ => false) = true := by kernel_rfl) (hrs : outs.all (fun o => o.ok ins.objs.length N) = true := by kernel_rfl) (hp : ins.vs.len ≤ N := by decide) (hn : fn.name ≠ "runtime.NumGoroutine" := by decide) : (mkC fid ins outs X).ok Tryz.prog :=
  snd tt_ok mix_ok he (ann_ok h1 h2 h3 h4) hf hb hN hres hrs hp hn
theorem sdR {fid : Nat} {fn : Func} {ins : Spec} {outs : List Spec} {X : ins.D → Option (OutD outs)} (N : Nat) (cells : List (Nat × Nat)) (x : Ann) (h3 : ∀ c ∈ x.callees, c.ok Tryz.prog) (h4 : ∀ c ∈ x.quiets, FunQuiet c.F) (hf : Tryz.prog.funcs[fid]? = some fn) (he : absFnR tt N cells ins outs (bodyOf fn) x = X := by (funext a; kernel_rfl)) (h1 : x.specsOk ins.objs.length N = true := by kernel_rfl) (h2 : x.eqTs.all (eqTypeB Tryz.prog) = true := by kernel_rfl) (hb : fn.body = some (bodyOf fn) := by rfl) (hN : fn.ntmps = N := by rfl) (hres : outs.all (fun o => decide (fn.results.size = o.slots.length) && (List.range o.slots.length).all fun i => resOk N cells fn.results[i]? o.slots[i]?) = true := by kernel_rfl) (hcs : cells.all (fun c => decide (c.1 < N)) = true := by kernel_rfl) (hrs : outs.all (fun o => o.ok ins.objs.length (N + cells.length)) = true := by kernel_rfl) (hp : ins.vs.len ≤ N := by decide) (hn : fn.name ≠ "runtime.NumGoroutine" := by decide) : (mkC fid ins outs X).ok Tryz.prog :=
  sndR tt_ok mix_ok he (ann_ok h1 h2 h3 h4) hf hb hN hres hcs hrs hp hn
theorem sdRK {fid : Nat} {fn : Func} {ins : Spec} {outs : List Spec} {X : ins.D → Option (OutD outs)} (N : Nat) (cells : List (Nat × Nat)) (x : Ann) (h3 : ∀ c ∈ x.callees, c.ok Tryz.prog) (h4 : ∀ c ∈ x.quiets, FunQuiet c.F) (h5 : ∀ c ∈ x.chunkFs, ChunkFn Tryz.prog c) (hf : Tryz.prog.funcs[fid]? = some fn) (he : absFnR tt N cells ins outs (bodyOf fn) x = X := by (funext a; kernel_rfl)) (h1 : x.specsOkR ins.objs.length N = true := by kernel_rfl) (h2 : x.eqTs.all (eqTypeB Tryz.prog) = true := by kernel_rfl) (hb : fn.body = some (bodyOf fn) := by rfl) (hN : fn.ntmps = N := by rfl) (hres : outs.all (fun o => decide (fn.results.size = o.slots.length) && (List.range o.slots.length).all fun i => resOk N cells fn.results[i]? o.slots[i]?) = true := by kernel_rfl) (hcs : cells.all (fun c => decide (c.1 < N)) = true := by kernel_rfl) (hrs : outs.all (fun o => o.ok ins.objs.length (N + cells.length)) = true := by kernel_rfl) (hp : ins.vs.len ≤ N := by decide) (hn : fn.name ≠ "runtime.NumGoroutine" := by decide) : (mkC fid ins outs X).ok Tryz.prog :=
  sndR tt_ok mix_ok he (ann_okR h1 h2 h3 h4 h5) hf hb hN hres hcs hrs hp hn


def mould_fits : (tB × Int) → Option (Int) := fun (s0, n1) =>
 ((
  if decide (n1 < 0) = false then
   some (((s0, n1, decide (n1 > 1000))))
  else
   some (((s0, n1, true)))) : Option (tB × Int × Bool)).bind fun (s0, n1, t5) =>
  if t5 = true then
   some 1
  else
   if decide ((s0.length : Int) > n1) = true then
    some 3
   else
    some 0

def mould_fits.c : Callee' := mkC 155 ⟨17, 0, [], [0, 1], (cS (cI .nil))⟩ [⟨17, 0, [], [4], (cI .nil)⟩] mould_fits
theorem mould_fits.q : FunQuiet mould_fits.c.F := mkFun_quiet rfl rfl
theorem mould_fits.s : mould_fits.c.ok Tryz.prog := sd 17 (.z (.seq (.block (.join [(.norm, ⟨17, 0, [], [0, 1, 5], (cS (cI (cB .nil)))⟩)]
  (.reg []) (.cond (.z .std) (.z (.cond (.z .std) .std))))) (.z .std))) kn kn Tryz.func155

def mould_Pad : (tB × Int) → Option (tB × Int) := fun (s0, n1) =>
 (mould_fits (s0, n1)).bind fun r9 =>
  if (r9 != 0) = true then
   some ((([], r9)))
  else
   (strings_Repeat (([0] : tB), i64.wrap (n1 - (s0.length : Int)))).bind fun r18 =>
    if s0.length + r18.length ≤ 9223372036854775807 then
     some (((s0 ++ r18, 0)))
    else none

def mould_Pad.c : Callee' := mkC 109 ⟨20, 0, [], [0, 1], (cS (cI .nil))⟩ [⟨20, 0, [], [4, 5], (cS (cI .nil))⟩] mould_Pad
theorem mould_Pad.q : FunQuiet mould_Pad.c.F := mkFun_quiet rfl rfl
theorem mould_Pad.s : mould_Pad.c.ok Tryz.prog := sd 20 (.z (.seq (.seq (.rq 2 mould_fits.c) (.z (.cond (.z .std) .std))) (.seq (.rq 5 strings_Repeat.c) .std))) (kc mould_fits.s (kc strings_Repeat.sound kn)) (kc mould_fits.q (kc strings_Repeat.quiet kn)) Tryz.func109

def slab_whole : tB → Option tB := fun s0 =>
 if 0 ≤ (if 128 < (s0.length : Int) then 128 else (s0.length : Int)) ∧ (if 128 < (s0.length : Int) then 128 else (s0.length : Int)) ≤ (s0.length : Int) then
  (mould_Pad (s0.take ((if 128 < (s0.length : Int) then 128 else (s0.length : Int))).toNat, 128)).bind fun (r11, r11_2) =>
   some r11
 else none

def slab_whole.c : Callee' := mkC 84 ⟨15, 0, [], [0], (cS .nil)⟩ [⟨15, 0, [], [2], (cS .nil)⟩] slab_whole
theorem slab_whole.q : FunQuiet slab_whole.c.F := mkFun_quiet rfl rfl
theorem slab_whole.s : slab_whole.c.ok Tryz.prog := sd 15 (.z (.seq (.rq 5 mould_Pad.c) (.z .std))) (kc mould_Pad.s kn) (kc mould_Pad.q kn) Tryz.func84

def slab_Load.l1 : (((Int × Int) × tS × tL) × tS × Int × Int) → Option ((((Int × Int) × tS × tL) × tS × Int × Int) ⊕ ((Int × Int) × tS × tL)) := fun (((s3c, s3d), o1, o2), t13, t14, t15) =>
 if decide (t15 < t14) = true then
  if 0 ≤ t15 ∧ t15 < (t13.length : Int) then
   (slab_whole (t13.getD t15.toNat [])).bind fun r25 =>
    if roomOk (o1.length + (([r25] : tS)).length) 16 then
     some (.inl ((((s3c, s3d), o1 ++ (([r25] : tS)), o2), t13, t14, i64.wrap (t15 + 1))))
    else none
  else none
 else
  some (.inr ((((s3c, s3d), o1, o2))))

def slab_Load : tS → Option ((Int × Int) × tS × tL) := fun image0 =>
 if 0 ≤ (if 1000 < (image0.length : Int) then 1000 else (image0.length : Int)) ∧ (if 1000 < (image0.length : Int) then 1000 else (image0.length : Int)) ≤ (image0.length : Int) then
  (loopO slab_Load.l1 ((((0, (-1)), [], ([] : tL)), image0.take ((if 1000 < (image0.length : Int) then 1000 else (image0.length : Int))).toNat, ((image0.take ((if 1000 < (image0.length : Int) then 1000 else (image0.length : Int))).toNat).length : Int), 0))).bind fun ((s3c, s3d), o1, o2) =>
   some ((((s3c, s3d), o1, o2)))
 else none

def slab_Load.c : Callee' := mkC 32 ⟨32, 0, [], [0], (.cons (.v (.sl .str)) .nil)⟩ [⟨32, 0, [.box (cr 1 (cr 2 (cI (cI .nil)))), .arr .str, .map I .str], [2], (cr 0 .nil)⟩] slab_Load
theorem slab_Load.s : slab_Load.c.ok Tryz.prog := sd 32 (.z (.seq (.reg [.mp I .str]) (.seq (.z (.block (.loop ⟨32, 0, [.box (cr 1 (cr 2 (cI (cI .nil)))), .arr .str, .map I .str], [3, 13, 14, 15], (cr 0 (.cons (.v (.sl .str)) (cI (cI .nil))))⟩ [(.exit 0, ⟨32, 0, [.box (cr 1 (cr 2 (cI (cI .nil)))), .arr .str, .map I .str], [3], (cr 0 .nil)⟩)]
  (.z (.seq (.cond .std .std) (.seq (.block (.z (.drw [.std, .std, .std, .std, .std, .std, .callq [slab_whole.c], .inl .str, .obj .str]))) (.reg []))))))) (.z .std)))) (kc slab_whole.s kn) (kc slab_whole.q kn) Tryz.func32

def slab_New : Int → Option ((Int × Int) × tS × tL) := fun n0 =>
 if 0 ≤ (if 1000 < (if 0 > n0 then 0 else n0) then 1000 else (if 0 > n0 then 0 else n0)) ∧ (if 1000 < (if 0 > n0 then 0 else n0) then 1000 else (if 0 > n0 then 0 else n0)) ≤ (if 1000 < (if 0 > n0 then 0 else n0) then 1000 else (if 0 > n0 then 0 else n0)) ∧ (if 1000 < (if 0 > n0 then 0 else n0) then 1000 else (if 0 > n0 then 0 else n0)) * (16 : Nat) ≤ 140737488355328 ∧ (if 1000 < (if 0 > n0 then 0 else n0) then 1000 else (if 0 > n0 then 0 else n0)) ≤ 9223372036854775807 then
  (slab_Load (List.replicate ((if 1000 < (if 0 > n0 then 0 else n0) then 1000 else (if 0 > n0 then 0 else n0))).toNat ([] : tB))).bind fun ((r7, r7_2), r7_3, r7_4) =>
   some ((((r7, r7_2), r7_3, r7_4)))
 else none

def slab_New.c : Callee' := mkC 23 ⟨8, 0, [], [0], (cI .nil)⟩ [⟨8, 0, [.box (cr 1 (cr 2 (cI (cI .nil)))), .arr .str, .map I .str], [2], (cr 0 .nil)⟩] slab_New
theorem slab_New.s : slab_New.c.ok Tryz.prog := sd 8 (.z (.seq (.reg [.std, .std, .std, .obj .str, .call [slab_Load.c]]) .std)) (kc slab_Load.s kn) kn Tryz.func23

def slab_Slab_Size : (tS × (tL) × Int × Int) → Option (Int) := fun s0 =>
 some (((s0.1.length : Int)))

def slab_Slab_Size.c : Callee' := mkC 67 ⟨10, 0, [], [0], (.cons (.v (.ptr (.pair (.sl .str) (.pair (.map I .str) (.pair I I))))) .nil)⟩ [⟨10, 0, [], [2], (cI .nil)⟩] slab_Slab_Size
theorem slab_Slab_Size.q : FunQuiet slab_Slab_Size.c.F := mkFun_quiet rfl rfl
theorem slab_Slab_Size.s : slab_Slab_Size.c.ok Tryz.prog := sd 10 (.z (.seq (.seq (.reg [.std, .obj .bool]) (.cond (.z .std) .std)) (.z .std))) kn kn Tryz.func67

def slab_Slab_there : ((tS × (tL) × Int × Int) × Int) → Option (Bool) := fun (s0, i1) =>
 if decide (i1 ≥ 0) = true then
  some ((decide (i1 < (s0.1.length : Int))))
 else
  some false

def slab_Slab_there.c : Callee' := mkC 129 ⟨20, 0, [], [0, 1], (.cons (.v (.ptr (.pair (.sl .str) (.pair (.map I .str) (.pair I I))))) (cI .nil))⟩ [⟨20, 0, [], [4], (cB .nil)⟩] slab_Slab_there
theorem slab_Slab_there.q : FunQuiet slab_Slab_there.c.F := mkFun_quiet rfl rfl
theorem slab_Slab_there.s : slab_Slab_there.c.ok Tryz.prog := sd 20 (.z (.seq (.reg [.std, .obj .bool]) .std)) kn kn Tryz.func129

def slab_Slab_Read : ((tS × (tL) × Int × Int) × Int) → Option tB := fun (s0, i1) =>
 (slab_Slab_there (s0, i1)).bind fun r9 =>
  if (!r9) = true then
   some []
  else
   if (mget (K := I) (V := .str) s0.2.1 i1).isSome = true then
    some ((((mget (K := I) (V := .str) s0.2.1 i1).getD [])))
   else
    if 0 ≤ i1 ∧ i1 < (s0.1.length : Int) then
     some ((s0.1.getD i1.toNat []))
    else none

def slab_Slab_Read.c : Callee' := mkC 70 ⟨29, 0, [], [0, 1], (.cons (.v (.ptr (.pair (.sl .str) (.pair (.map I .str) (.pair I I))))) (cI .nil))⟩ [⟨29, 0, [], [4], (cS .nil)⟩] slab_Slab_Read
theorem slab_Slab_Read.q : FunQuiet slab_Slab_Read.c.F := mkFun_quiet rfl rfl
theorem slab_Slab_Read.s : slab_Slab_Read.c.ok Tryz.prog := sd 29 (.z (.seq (.seq (.rq 2 slab_Slab_there.c) (.cond (.z .std) .std)) (.seq (.z (.z (.cond (.z .std) .std))) (.z .std)))) (kc slab_Slab_there.s kn) (kc slab_Slab_there.q kn) Tryz.func70

def bits_Mul64 : (Int × Int) → Option (Int × Int) := fun (x0, y1) =>
 some (((u64.wrap ((u64.wrap ((u64.wrap ((Int.fdiv x0 (2 ^ 32)) * (Int.fdiv y1 (2 ^ 32)))) + (Int.fdiv (u64.wrap ((u64.wrap ((Int.fdiv x0 (2 ^ 32)) * (bitsOp .and .u64 y1 4294967295))) + (Int.fdiv (u64.wrap ((bitsOp .and .u64 x0 4294967295) * (bitsOp .and .u64 y1 4294967295))) (2 ^ 32)))) (2 ^ 32)))) + (Int.fdiv (u64.wrap ((bitsOp .and .u64 (u64.wrap ((u64.wrap ((Int.fdiv x0 (2 ^ 32)) * (bitsOp .and .u64 y1 4294967295))) + (Int.fdiv (u64.wrap ((bitsOp .and .u64 x0 4294967295) * (bitsOp .and .u64 y1 4294967295))) (2 ^ 32)))) 4294967295) + (u64.wrap ((bitsOp .and .u64 x0 4294967295) * (Int.fdiv y1 (2 ^ 32)))))) (2 ^ 32))), u64.wrap (x0 * y1))))

def bits_Mul64.c : Callee' := mkC 197 ⟨51, 0, [], [0, 1], (.cons (.v (.int .u64)) (.cons (.v (.int .u64)) .nil))⟩ [⟨51, 0, [], [4, 5], (.cons (.v (.int .u64)) (.cons (.v (.int .u64)) .nil))⟩] bits_Mul64
theorem bits_Mul64.q : FunQuiet bits_Mul64.c.F := mkFun_quiet rfl rfl
theorem bits_Mul64.s : bits_Mul64.c.ok Tryz.prog := sd 51 (.z (.z (.z (.z (.z (.z (.z (.z (.z (.z (.z (.z .std)))))))))))) kn kn Tryz.func197

def bits_Mul : (Int × Int) → Option (Int × Int) := fun (x0, y1) =>
 (bits_Mul64 (x0, y1)).bind fun (r25, r25_2) =>
  some (((r25, r25_2)))

def bits_Mul.c : Callee' := mkC 163 ⟨30, 0, [], [0, 1], (.cons (.v (.int .u64)) (.cons (.v (.int .u64)) .nil))⟩ [⟨30, 0, [], [4, 5], (.cons (.v (.int .u64)) (.cons (.v (.int .u64)) .nil))⟩] bits_Mul
theorem bits_Mul.q : FunQuiet bits_Mul.c.F := mkFun_quiet rfl rfl
theorem bits_Mul.s : bits_Mul.c.ok Tryz.prog := sd 30 (.z (.seq (.cond (.z (.z .std)) .std) (.seq (.rq 2 bits_Mul64.c) (.z .std)))) (kc bits_Mul64.s kn) (kc bits_Mul64.q kn) Tryz.func163

def slices_Repeat_int_int.l1 : (tI × Int) → Option ((tI × Int) ⊕ tI) := fun (newslice7, n8) =>
 if decide (n8 < (newslice7.length : Int)) = true then
  if 0 ≤ n8 ∧ n8 ≤ (newslice7.length : Int) then
   if 0 ≤ n8 ∧ n8 ≤ (newslice7.length : Int) then
    some (.inl ((copyRow newslice7 (((newslice7).drop 0).take ((n8 - 0).toNat)) n8.toNat (((newslice7.length : Int) - n8).toNat), i64.wrap (n8 + ((min (((newslice7.length : Int) - n8).toNat) ((((newslice7).drop 0).take ((n8 - 0).toNat)).length) : Nat) : Int)))))
   else none
  else none
 else
  some (.inr newslice7)

def slices_Repeat_int_int : (tI × Int) → Option tI := fun (x0, count1) =>
 if decide (count1 < 0) = true then none else
 (bits_Mul (u64.wrap ((x0.length : Int)), u64.wrap (count1))).bind fun (r18, r18_2) =>
  if decide (r18 > 0) = false then
   if decide (r18_2 > 9223372036854775807) = true then none else
   if 0 ≤ i64.wrap (r18_2) ∧ i64.wrap (r18_2) ≤ i64.wrap (r18_2) ∧ i64.wrap (r18_2) * (8 : Nat) ≤ 140737488355328 ∧ i64.wrap (r18_2) ≤ 9223372036854775807 then
    (loopO slices_Repeat_int_int.l1 ((copyRow (List.replicate (i64.wrap (r18_2)).toNat (0 : Int)) x0 0 ((List.replicate (i64.wrap (r18_2)).toNat (0 : Int)).length), ((min ((List.replicate (i64.wrap (r18_2)).toNat (0 : Int)).length) x0.length : Nat) : Int)))).bind fun newslice7 =>
     some newslice7
   else none
  else none

def slices_Repeat_int_int.c : Callee' := mkC 122 ⟨48, 0, [], [0, 1], (.cons (.v (.sl I)) (cI .nil))⟩ [⟨48, 0, [], [4], (.cons (.v (.sl I)) .nil)⟩] slices_Repeat_int_int
theorem slices_Repeat_int_int.q : FunQuiet slices_Repeat_int_int.c.F := mkFun_quiet rfl rfl
theorem slices_Repeat_int_int.s : slices_Repeat_int_int.c.ok Tryz.prog := sd 48 (.z (.seq (.z (.cond (.reg []) .std)) (.seq (.rq 5 bits_Mul.c) (.seq (.z (.cond (.reg []) .std)) (.seq (.reg [.std, .std, .obj I]) (.seq (.reg [.std, .std, .obj I]) (.seq (.block (.loop ⟨48, 0, [.arr I], [7, 8], (cr 0 (cI .nil))⟩ [(.exit 0, ⟨48, 0, [.arr I], [7], (cr 0 .nil)⟩)]
  (.seq (.z (.cond .std .std)) (.block (.drw [.std, .std, .std, .std, .std, .std, .std, .obj I]))))) (.z .std)))))))) (kc bits_Mul.s kn) (kc bits_Mul.q kn) Tryz.func122

def mould_Size.l1 : (Int × tI × Int × Int) → Option ((Int × tI × Int × Int) ⊕ (Int ⊕ Int)) := fun (n3, t6, t7, t8) =>
 if decide (t8 < t7) = true then
  if 0 ≤ t8 ∧ t8 < (t6.length : Int) then
   if (t6.getD t8.toNat 0 == 1) = true then
    some (.inl ((i64.wrap (n3 + (t6.getD t8.toNat 0)), t6, t7, i64.wrap (t8 + 1))))
   else
    if (t6.getD t8.toNat 0 == 2) = true then
     some (.inl ((i64.wrap (n3 + (t6.getD t8.toNat 0)), t6, t7, i64.wrap (t8 + 1))))
    else
     if (t6.getD t8.toNat 0 == 4) = true then
      some (.inl ((i64.wrap (n3 + (t6.getD t8.toNat 0)), t6, t7, i64.wrap (t8 + 1))))
     else
      some (.inr (.inr (-1)))
  else none
 else
  some (.inr (.inl n3))

def mould_Size : tI → Option (Int) := fun widths0 =>
 (loopO mould_Size.l1 ((0, widths0, (widths0.length : Int), 0))).bind fun d => match d with
 | .inl n3 =>
  some n3
 | .inr t2 =>
  some t2

def mould_Size.c : Callee' := mkC 125 ⟨22, 0, [], [0], (.cons (.v (.sl I)) .nil)⟩ [⟨22, 0, [], [2], (cI .nil)⟩] mould_Size
theorem mould_Size.q : FunQuiet mould_Size.c.F := mkFun_quiet rfl rfl
theorem mould_Size.s : mould_Size.c.ok Tryz.prog := sd 22 (.z (.z (.seq (.z (.block (.loop ⟨22, 0, [], [3, 6, 7, 8], (cI (.cons (.v (.sl I)) (cI (cI .nil))))⟩ [(.exit 0, ⟨22, 0, [], [3], (cI .nil)⟩), (.ret, ⟨22, 0, [], [2], (cI .nil)⟩)]
  (.z (.seq (.cond .std .std) (.seq (.block (.z (.z (.block (.seq (.z (.cond .std (.z (.cond .std (.reg []))))) (.cond (.reg []) (.z .std))))))) (.reg []))))))) (.z .std)))) kn kn Tryz.func125

def mould_Read.l2 : (tI × tB × Int × Int × tI × Int × Int × tI × Int × Int) → Option ((tI × tB × Int × Int × tI × Int × Int × tI × Int × Int) ⊕ (tI × tB × Int × tI × Int × Int)) := fun (values7, s1, i8, w9, t25, t26, t27, t35, t36, t37) =>
 if decide (t37 < t36) = true then
  if 0 ≤ t37 ∧ t37 < (t35.length : Int) then
   if 0 ≤ i8 ∧ i8 < (values7.length : Int) then
    if 0 ≤ i64.wrap (8 * t37) then
     if 0 ≤ i8 ∧ i8 < (values7.length : Int) then
      some (.inl ((values7.set i8.toNat (bitsOp .or .i64 (values7.getD i8.toNat 0) (i64.wrap (i64.wrap (t35.getD t37.toNat 0) * 2 ^ (min (i64.wrap (8 * t37)).toNat 64)))), s1, i8, w9, t25, t26, t27, t35, t36, i64.wrap (t37 + 1))))
     else none
    else none
   else none
  else none
 else
  some (.inr (((values7, s1, w9, t25, t26, t27))))

def mould_Read.l1 : (tI × tB × tI × Int × Int) → Option ((tI × tB × tI × Int × Int) ⊕ tI) := fun (values7, s1, t25, t26, t27) =>
 if decide (t27 < t26) = true then
  if 0 ≤ t27 ∧ t27 < (t25.length : Int) then
   if 0 ≤ t25.getD t27.toNat 0 ∧ t25.getD t27.toNat 0 ≤ (s1.length : Int) then
    (loopO mould_Read.l2 ((values7, s1, t27, t25.getD t27.toNat 0, t25, t26, t27, (s1.take (t25.getD t27.toNat 0).toNat).map fun b => (b.toNat : Int), (((s1.take (t25.getD t27.toNat 0).toNat).map fun b => (b.toNat : Int)).length : Int), 0))).bind fun (values7, s1, w9, t25, t26, t27) =>
     if 0 ≤ w9 ∧ w9 ≤ (s1.length : Int) then
      some (.inl ((values7, s1.drop w9.toNat, t25, t26, i64.wrap (t27 + 1))))
     else none
   else none
  else none
 else
  some (.inr values7)

def mould_Read : (tI × tB) → Option (tI × Int) := fun (widths0, s1) =>
 (mould_Size widths0).bind fun r13 =>
  if decide (r13 < 0) = true then
   some (((([] : tI), 1)))
  else
   if decide ((s1.length : Int) < r13) = true then
    some (((([] : tI), 2)))
   else
    if 0 ≤ (widths0.length : Int) ∧ (widths0.length : Int) ≤ (widths0.length : Int) ∧ (widths0.length : Int) * (8 : Nat) ≤ 140737488355328 ∧ (widths0.length : Int) ≤ 9223372036854775807 then
     (loopO mould_Read.l1 ((List.replicate ((widths0.length : Int)).toNat (0 : Int), s1, widths0, (widths0.length : Int), 0))).bind fun values7 =>
      some (((values7, 0)))
    else none

def mould_Read.c : Callee' := mkC 123 ⟨59, 0, [], [0, 1], (.cons (.v (.sl I)) (cS .nil))⟩ [⟨59, 0, [], [4, 5], (.cons (.v (.sl I)) (cI .nil))⟩] mould_Read
theorem mould_Read.q : FunQuiet mould_Read.c.F := mkFun_quiet rfl rfl
theorem mould_Read.s : mould_Read.c.ok Tryz.prog := sd 59 (.z (.seq (.reg [.std, .callq [mould_Size.c]]) (.seq (.block (.z (.cond (.z .std) (.z (.cond (.z .std) .std))))) (.seq (.reg [.std, .std, .obj I]) (.seq (.z (.block (.loop ⟨59, 0, [.arr I], [1, 7, 25, 26, 27], (cS (cr 0 (.cons (.v (.sl I)) (cI (cI .nil)))))⟩ [(.exit 1, ⟨59, 0, [.arr I], [7], (cr 0 .nil)⟩)]
  (.z (.seq (.cond .std .std) (.seq (.block (.z (.seq (.seq (.reg [.std, .std, .std, .inl (.int .u8)]) (.block (.loop ⟨59, 0, [.arr I], [1, 7, 8, 9, 25, 26, 27, 35, 36, 37], (cS (cr 0 (cI (cI (.cons (.v (.sl I)) (cI (cI (.cons (.v (.sl (.int .u8))) (cI (cI .nil))))))))))⟩ [(.exit 3, ⟨59, 0, [.arr I], [1, 7, 9, 25, 26, 27], (cS (cr 0 (cI (.cons (.v (.sl I)) (cI (cI .nil))))))⟩)]
  (.z (.seq (.cond .std .std) (.seq (.block (.z (.drw [.std, .std, .std, .std, .std, .inl (.int .u8)]))) (.reg []))))))) (.reg [])))) (.reg []))))))) (.z .std)))))) (kc mould_Size.s kn) (kc mould_Size.q kn) Tryz.func123

def strings_trimRightByte.l1 : (tB × Int) → Option ((tB × Int) ⊕ tB) := fun (s0, c1) =>
 if decide ((s0.length : Int) > 0) = true then
  if 0 ≤ i64.wrap ((s0.length : Int) - 1) ∧ i64.wrap ((s0.length : Int) - 1) < (s0.length : Int) then
   if (((s0.getD ((i64.wrap ((s0.length : Int) - 1)).toNat) 0).toNat : Int) == c1) = true then
    if 0 ≤ i64.wrap ((s0.length : Int) - 1) ∧ i64.wrap ((s0.length : Int) - 1) ≤ (s0.length : Int) then
     some (.inl ((s0.take (i64.wrap ((s0.length : Int) - 1)).toNat, c1)))
    else none
   else
    some (.inr s0)
  else none
 else
  some (.inr s0)

def strings_trimRightByte : (tB × Int) → Option tB := fun (s0, c1) =>
 (loopO strings_trimRightByte.l1 ((s0, c1))).bind fun s0 =>
  some s0

def strings_trimRightByte.c : Callee' := mkC 165 ⟨23, 0, [], [0, 1], (cS (.cons (.v (.int .u8)) .nil))⟩ [⟨23, 0, [], [4], (cS .nil)⟩] strings_trimRightByte
theorem strings_trimRightByte.q : FunQuiet strings_trimRightByte.c.F := mkFun_quiet rfl rfl
theorem strings_trimRightByte.s : strings_trimRightByte.c.ok Tryz.prog := sd 23 (.z (.seq (.block (.loop ⟨23, 0, [], [0, 1], (cS (.cons (.v (.int .u8)) .nil))⟩ [(.exit 0, ⟨23, 0, [], [0], (cS .nil)⟩)]
  (.seq (.z (.cond .std .std)) (.block (.reg []))))) (.z .std))) kn kn Tryz.func165

def strings_trimLeftByte.l1 : (tB × Int) → Option ((tB × Int) ⊕ tB) := fun (s0, c1) =>
 if decide ((s0.length : Int) > 0) = true then
  if 0 ≤ (0 : Int) ∧ (0 : Int) < (s0.length : Int) then
   if (((s0.getD 0 0).toNat : Int) == c1) = true then
    if 0 ≤ (1 : Int) ∧ (1 : Int) ≤ (s0.length : Int) then
     some (.inl ((s0.drop 1, c1)))
    else none
   else
    some (.inr s0)
  else none
 else
  some (.inr s0)

def strings_trimLeftByte : (tB × Int) → Option tB := fun (s0, c1) =>
 (loopO strings_trimLeftByte.l1 ((s0, c1))).bind fun s0 =>
  some s0

def strings_trimLeftByte.c : Callee' := mkC 164 ⟨17, 0, [], [0, 1], (cS (.cons (.v (.int .u8)) .nil))⟩ [⟨17, 0, [], [4], (cS .nil)⟩] strings_trimLeftByte
theorem strings_trimLeftByte.q : FunQuiet strings_trimLeftByte.c.F := mkFun_quiet rfl rfl
theorem strings_trimLeftByte.s : strings_trimLeftByte.c.ok Tryz.prog := sd 17 (.z (.seq (.block (.loop ⟨17, 0, [], [0, 1], (cS (.cons (.v (.int .u8)) .nil))⟩ [(.exit 0, ⟨17, 0, [], [0], (cS .nil)⟩)]
  (.seq (.z (.cond .std .std)) (.block (.reg []))))) (.z .std))) kn kn Tryz.func164

def strings_Trim : (tB × tB) → Option tB := fun (s0, cutset1) =>
 if (s0 == []) = false then
  if (cutset1 == []) = true then
   some s0
  else
   ((
    if ((cutset1.length : Int) == 1) = true then
     if 0 ≤ (0 : Int) ∧ (0 : Int) < (cutset1.length : Int) then
      some (((s0, cutset1, decide (((cutset1.getD 0 0).toNat : Int) < 128))))
     else none
    else
     some (((s0, cutset1, false)))) : Option (tB × tB × Bool)).bind fun (s0, cutset1, t21) =>
    if t21 = true then
     if 0 ≤ (0 : Int) ∧ (0 : Int) < (cutset1.length : Int) then
      (strings_trimRightByte (s0, ((cutset1.getD 0 0).toNat : Int))).bind fun r25 =>
       if 0 ≤ (0 : Int) ∧ (0 : Int) < (cutset1.length : Int) then
        (strings_trimLeftByte (r25, ((cutset1.getD 0 0).toNat : Int))).bind fun r28 =>
         some r28
       else none
     else none
    else none
 else
  some s0

def strings_Trim.c : Callee' := mkC 124 ⟨43, 0, [], [0, 1], (cS (cS .nil))⟩ [⟨43, 0, [], [4], (cS .nil)⟩] strings_Trim
theorem strings_Trim.q : FunQuiet strings_Trim.c.F := mkFun_quiet rfl rfl
theorem strings_Trim.s : strings_Trim.c.ok Tryz.prog := sd 43 (.z (.seq (.z (.cond (.z .std) .std)) (.seq (.join [(.norm, ⟨43, 0, [], [0, 1, 21], (cS (cS (cB .nil)))⟩)]
  (.reg []) (.cond (.seq (.drw [.std, .std, .std, .callq [strings_trimRightByte.c], .std, .std, .callq [strings_trimLeftByte.c]]) .std) .std)) (.seq (.z (.z (.cond (.z .std) .std))) (.z .std))))) (kc strings_trimRightByte.s (kc strings_trimLeftByte.s kn)) (kc strings_trimRightByte.q (kc strings_trimLeftByte.q kn)) Tryz.func124

def log_Log_free : (((tS × (tL) × Int × Int) × Bool × Int) × Int) → Option (Bool) := fun (l0, i1) =>
 if decide (i1 ≥ 0) = true then
  (slab_Slab_Size l0.1).bind fun r13 =>
   if decide (i1 < r13) = true then
    if decide (i1 < 1) = false then
     some ((decide (i1 ≥ 42)))
    else
     some true
   else
    some false
 else
  some false

def log_Log_free.c : Callee' := mkC 171 ⟨24, 0, [], [0, 1], (.cons (.v (.ptr (.pair (.ptr (.pair (.sl .str) (.pair (.map I .str) (.pair I I)))) (.pair .bool I)))) (cI .nil))⟩ [⟨24, 0, [], [4], (cB .nil)⟩] log_Log_free
theorem log_Log_free.q : FunQuiet log_Log_free.c.F := mkFun_quiet rfl rfl
theorem log_Log_free.s : log_Log_free.c.ok Tryz.prog := sd 24 (.z (.seq (.rq 8 slab_Slab_Size.c) .std)) (kc slab_Slab_Size.s kn) (kc slab_Slab_Size.q kn) Tryz.func171

def log_Log_right.l1 : ((List (Int × Int)) × ((tS × (tL) × Int × Int) × Bool × Int) × (tL) × Int × Int) → Option (((List (Int × Int)) × ((tS × (tL) × Int × Int) × Bool × Int) × (tL) × Int × Int) ⊕ (Unit ⊕ Bool)) := fun (seen5, l0, t9, t10, t11) =>
 if decide (t11 < t10) = true then
  if 0 ≤ t11 ∧ t11 < (t9.length : Int) then
   (log_Log_free (l0, (t9.getD t11.toNat (0, [])).1)).bind fun r23 =>
    if (!r23) = false then
     if ((((t9.getD t11.toNat (0, [])).2).length : Int) != 128) = false then
      if decide (((mget (K := I) (V := I) (mput (K := I) (V := I) seen5 ((t9.getD t11.toNat (0, [])).1) (i64.wrap (((mget (K := I) (V := I) seen5 ((t9.getD t11.toNat (0, [])).1)).getD 0) + 1))) ((t9.getD t11.toNat (0, [])).1)).getD 0) > 1) = true then
       some (.inr (.inr false))
      else
       some (.inl ((mput (K := I) (V := I) seen5 ((t9.getD t11.toNat (0, [])).1) (i64.wrap (((mget (K := I) (V := I) seen5 ((t9.getD t11.toNat (0, [])).1)).getD 0) + 1)), l0, t9, t10, i64.wrap (t11 + 1))))
     else
      some (.inr (.inr false))
    else
     some (.inr (.inr false))
  else none
 else
  some (.inr (.inl ()))

def log_Log_right : (((tS × (tL) × Int × Int) × Bool × Int) × tL) → Option (Bool) := fun (l0, c1) =>
 (loopO log_Log_right.l1 ((([] : List (Int × Int)), l0, c1, (c1.length : Int), 0))).bind fun d => match d with
 | .inl _ =>
  some true
 | .inr t4 =>
  some t4

def log_Log_right.c : Callee' := mkC 126 ⟨39, 0, [], [0, 1], (.cons (.v (.ptr (.pair (.ptr (.pair (.sl .str) (.pair (.map I .str) (.pair I I)))) (.pair .bool I)))) (.cons (.v (.sl (.st (.pair I .str)))) .nil))⟩ [⟨39, 0, [], [4], (cB .nil)⟩] log_Log_right
theorem log_Log_right.q : FunQuiet log_Log_right.c.F := mkFun_quiet rfl rfl
theorem log_Log_right.s : log_Log_right.c.ok Tryz.prog := sd 39 (.z (.seq (.reg [.mp I I]) (.seq (.z (.block (.loop ⟨39, 0, [.map I I], [0, 5, 9, 10, 11], (.cons (.v (.ptr (.pair (.ptr (.pair (.sl .str) (.pair (.map I .str) (.pair I I)))) (.pair .bool I)))) (cr 0 (.cons (.v (.sl (.st (.pair I .str)))) (cI (cI .nil)))))⟩ [(.exit 0, ⟨39, 0, [], [], .nil⟩), (.ret, ⟨39, 0, [], [4], (cB .nil)⟩)]
  (.z (.seq (.cond .std .std) (.seq (.block (.z (.z (.seq (.rq 3 log_Log_free.c) (.cond (.z .std) .std))))) (.reg []))))))) (.z .std)))) (kc log_Log_free.s kn) (kc log_Log_free.q kn) Tryz.func126

def log_Log_read.l1 : ((tL) × ((tS × (tL) × Int × Int) × Bool × Int) × tI × Int × Int) → Option (((tL) × ((tS × (tL) × Int × Int) × Bool × Int) × tI × Int × Int) ⊕ ((tL) × (tS × (tL) × Int × Int) × Bool × Int)) := fun (c9, l0, t43, t44, t45) =>
 if decide (t45 < t44) = true then
  if 0 ≤ t45 ∧ t45 < (t43.length : Int) then
   (slab_Slab_Read (l0.1, i64.wrap (2 + t45))).bind fun r58 =>
    if roomOk (c9.length + (([(t43.getD t45.toNat 0, r58)] : tL)).length) 24 then
     some (.inl ((c9 ++ (([(t43.getD t45.toNat 0, r58)] : tL)), l0, t43, t44, i64.wrap (t45 + 1))))
    else none
  else none
 else
  some (.inr (((c9, l0))))

def log_Log_read : ((tS × (tL) × Int × Int) × Bool × Int) → Option ((tL) × Bool) := fun l0 =>
 (slab_Slab_Read (l0.1, 1)).bind fun r16 =>
  if 0 ≤ (0 : Int) ∧ (0 : Int) < (r16.length : Int) then
   if decide (i64.wrap (((r16.getD 0 0).toNat : Int)) > 40) = true then
    some (((([] : tL), false)))
   else
    (slices_Repeat_int_int (([2] : tI), i64.wrap (((r16.getD 0 0).toNat : Int)))).bind fun r24 =>
     if 0 ≤ (1 : Int) ∧ (1 : Int) ≤ (r16.length : Int) then
      (mould_Read (r24, r16.drop 1)).bind fun (r29, r29_2) =>
       if (r29_2 != 0) = false then
        (mould_Size r24).bind fun r37 =>
         if 0 ≤ i64.wrap (1 + r37) ∧ i64.wrap (1 + r37) ≤ (r16.length : Int) then
          (strings_Trim (r16.drop (i64.wrap (1 + r37)).toNat, ([0] : tB))).bind fun r40 =>
           if (!(r40 == [])) = true then
            some (((([] : tL), false)))
           else
            (loopO log_Log_read.l1 (([], l0, r29, (r29.length : Int), 0))).bind fun (c9, l0) =>
             (log_Log_right (l0, c9)).bind fun r66 =>
              some (((c9, r66)))
         else none
       else
        some (((([] : tL), false)))
     else none
  else none

def log_Log_read.c : Callee' := mkC 68 ⟨67, 0, [], [0], (.cons (.v (.ptr (.pair (.ptr (.pair (.sl .str) (.pair (.map I .str) (.pair I I)))) (.pair .bool I)))) .nil)⟩ [⟨67, 0, [], [2, 3], (.cons (.v (.sl (.st (.pair I .str)))) (cB .nil))⟩] log_Log_read
theorem log_Log_read.q : FunQuiet log_Log_read.c.F := mkFun_quiet rfl rfl
theorem log_Log_read.s : log_Log_read.c.ok Tryz.prog := sd 67 (.z (.seq (.rq 4 slab_Slab_Read.c) (.z (.seq (.z (.cond (.z .std) .std)) (.seq (.reg [.inl I, .std, .callq [slices_Repeat_int_int.c]]) (.seq (.rq 3 mould_Read.c) (.seq (.seq (.reg [.std, .std, .std, .std, .std, .callq [mould_Size.c], .std, .std, .callq [strings_Trim.c]]) (.cond (.z .std) .std)) (.z (.seq (.z (.block (.loop ⟨67, 0, [.arr (.st (.pair I .str))], [0, 9, 43, 44, 45], (.cons (.v (.ptr (.pair (.ptr (.pair (.sl .str) (.pair (.map I .str) (.pair I I)))) (.pair .bool I)))) (cr 0 (.cons (.v (.sl I)) (cI (cI .nil)))))⟩ [(.exit 0, ⟨67, 0, [.arr (.st (.pair I .str))], [0, 9], (.cons (.v (.ptr (.pair (.ptr (.pair (.sl .str) (.pair (.map I .str) (.pair I I)))) (.pair .bool I)))) (cr 0 .nil))⟩)]
  (.z (.seq (.cond .std .std) (.seq (.block (.z (.reg [.std, .std, .std, .std, .std, .std, .std, .std, .callq [slab_Slab_Read.c], .std, .inl (.st (.pair I .str)), .obj (.st (.pair I .str))]))) (.reg []))))))) (.seq (.rq 3 log_Log_right.c) .std)))))))))) (kc slab_Slab_Read.s (kc slices_Repeat_int_int.s (kc mould_Read.s (kc mould_Size.s (kc strings_Trim.s (kc slab_Slab_Read.s (kc log_Log_right.s kn))))))) (kc slab_Slab_Read.q (kc slices_Repeat_int_int.q (kc mould_Read.q (kc mould_Size.q (kc strings_Trim.q (kc slab_Slab_Read.q (kc log_Log_right.q kn))))))) Tryz.func68

def log_Log_read_1.l1 : ((((tS × (tL) × Int × Int) × Bool × Int) × tL) × tI × Int × Int) → Option (((((tS × (tL) × Int × Int) × Bool × Int) × tL) × tI × Int × Int) ⊕ (((tS × (tL) × Int × Int) × Bool × Int) × tL)) := fun (((l0a, l0b, l0c), c9), t43, t44, t45) =>
 if decide (t45 < t44) = true then
  if 0 ≤ t45 ∧ t45 < (t43.length : Int) then
   (slab_Slab_Read (l0a, i64.wrap (2 + t45))).bind fun r58 =>
    if roomOk (c9.length + (([(t43.getD t45.toNat 0, r58)] : tL)).length) 24 then
     some (.inl ((((l0a, l0b, l0c), c9 ++ (([(t43.getD t45.toNat 0, r58)] : tL))), t43, t44, i64.wrap (t45 + 1))))
    else none
  else none
 else
  some (.inr ((((l0a, l0b, l0c), c9))))

def log_Log_read_1 : ((tS × (tL) × Int × Int) × Bool × Int) → Option (((tS × (tL) × Int × Int) × Bool × Int) × (tL) × Bool) := fun (l0a, l0b, l0c) =>
 (slab_Slab_Read (l0a, 1)).bind fun r16 =>
  if 0 ≤ (0 : Int) ∧ (0 : Int) < (r16.length : Int) then
   if decide (i64.wrap (((r16.getD 0 0).toNat : Int)) > 40) = true then
    some ((((l0a, l0b, l0c), ([] : tL), false)))
   else
    (slices_Repeat_int_int (([2] : tI), i64.wrap (((r16.getD 0 0).toNat : Int)))).bind fun r24 =>
     if 0 ≤ (1 : Int) ∧ (1 : Int) ≤ (r16.length : Int) then
      (mould_Read (r24, r16.drop 1)).bind fun (r29, r29_2) =>
       if (r29_2 != 0) = false then
        (mould_Size r24).bind fun r37 =>
         if 0 ≤ i64.wrap (1 + r37) ∧ i64.wrap (1 + r37) ≤ (r16.length : Int) then
          (strings_Trim (r16.drop (i64.wrap (1 + r37)).toNat, ([0] : tB))).bind fun r40 =>
           if (!(r40 == [])) = true then
            some ((((l0a, l0b, l0c), ([] : tL), false)))
           else
            (loopO log_Log_read_1.l1 ((((l0a, l0b, l0c), []), r29, (r29.length : Int), 0))).bind fun ((l0a, l0b, l0c), c9) =>
             (log_Log_right ((l0a, l0b, l0c), c9)).bind fun r66 =>
              some ((((l0a, l0b, l0c), c9, r66)))
         else none
       else
        some ((((l0a, l0b, l0c), ([] : tL), false)))
     else none
  else none

def log_Log_read_1.c : Callee' := mkC 68 ⟨67, 0, [.box (.cons (.v (.ptr (.pair (.sl .str) (.pair (.map I .str) (.pair I I))))) (cB (cI .nil)))], [0], (cr 0 .nil)⟩ [⟨67, 1, [.box (.cons (.v (.ptr (.pair (.sl .str) (.pair (.map I .str) (.pair I I))))) (cB (cI .nil)))], [2, 3], (.cons (.v (.sl (.st (.pair I .str)))) (cB .nil))⟩] log_Log_read_1
theorem log_Log_read_1.s : log_Log_read_1.c.ok Tryz.prog := sd 67 (.z (.seq (.rq 4 slab_Slab_Read.c) (.z (.seq (.z (.cond (.z .std) .std)) (.seq (.reg [.inl I, .std, .callq [slices_Repeat_int_int.c]]) (.seq (.rq 3 mould_Read.c) (.seq (.seq (.reg [.std, .std, .std, .std, .std, .callq [mould_Size.c], .std, .std, .callq [strings_Trim.c]]) (.cond (.z .std) .std)) (.z (.seq (.z (.block (.loop ⟨67, 1, [.box (.cons (.v (.ptr (.pair (.sl .str) (.pair (.map I .str) (.pair I I))))) (cB (cI .nil))), .arr (.st (.pair I .str))], [0, 9, 43, 44, 45], (cr 0 (cr 1 (.cons (.v (.sl I)) (cI (cI .nil)))))⟩ [(.exit 0, ⟨67, 1, [.box (.cons (.v (.ptr (.pair (.sl .str) (.pair (.map I .str) (.pair I I))))) (cB (cI .nil))), .arr (.st (.pair I .str))], [0, 9], (cr 0 (cr 1 .nil))⟩)]
  (.z (.seq (.cond .std .std) (.seq (.block (.z (.reg [.std, .std, .std, .std, .std, .std, .std, .std, .callq [slab_Slab_Read.c], .std, .inl (.st (.pair I .str)), .obj (.st (.pair I .str))]))) (.reg []))))))) (.seq (.rq 3 log_Log_right.c) .std)))))))))) (kc slab_Slab_Read.s (kc slices_Repeat_int_int.s (kc mould_Read.s (kc mould_Size.s (kc strings_Trim.s (kc slab_Slab_Read.s (kc log_Log_right.s kn))))))) (kc slab_Slab_Read.q (kc slices_Repeat_int_int.q (kc mould_Read.q (kc mould_Size.q (kc strings_Trim.q (kc slab_Slab_Read.q (kc log_Log_right.q kn))))))) Tryz.func68

def log_Log_read_2.l1 : (((Bool × Int) × (Int × Int) × tS × (tL) × tL) × tI × Int × Int) → Option ((((Bool × Int) × (Int × Int) × tS × (tL) × tL) × tI × Int × Int) ⊕ ((Bool × Int) × (Int × Int) × tS × (tL) × tL)) := fun (((l0b, l0c), (o1c, o1d), o2, o3, c9), t43, t44, t45) =>
 if decide (t45 < t44) = true then
  if 0 ≤ t45 ∧ t45 < (t43.length : Int) then
   (slab_Slab_Read ((o2, o3, o1c, o1d), i64.wrap (2 + t45))).bind fun r58 =>
    if roomOk (c9.length + (([(t43.getD t45.toNat 0, r58)] : tL)).length) 24 then
     some (.inl ((((l0b, l0c), (o1c, o1d), o2, o3, c9 ++ (([(t43.getD t45.toNat 0, r58)] : tL))), t43, t44, i64.wrap (t45 + 1))))
    else none
  else none
 else
  some (.inr ((((l0b, l0c), (o1c, o1d), o2, o3, c9))))

def log_Log_read_2 : ((Bool × Int) × (Int × Int) × tS × tL) → Option (((Bool × Int) × (Int × Int) × tS × tL) × (tL) × Bool) := fun ((l0b, l0c), (o1c, o1d), o2, o3) =>
 (slab_Slab_Read ((o2, o3, o1c, o1d), 1)).bind fun r16 =>
  if 0 ≤ (0 : Int) ∧ (0 : Int) < (r16.length : Int) then
   if decide (i64.wrap (((r16.getD 0 0).toNat : Int)) > 40) = true then
    some (((((l0b, l0c), (o1c, o1d), o2, o3), ([] : tL), false)))
   else
    (slices_Repeat_int_int (([2] : tI), i64.wrap (((r16.getD 0 0).toNat : Int)))).bind fun r24 =>
     if 0 ≤ (1 : Int) ∧ (1 : Int) ≤ (r16.length : Int) then
      (mould_Read (r24, r16.drop 1)).bind fun (r29, r29_2) =>
       if (r29_2 != 0) = false then
        (mould_Size r24).bind fun r37 =>
         if 0 ≤ i64.wrap (1 + r37) ∧ i64.wrap (1 + r37) ≤ (r16.length : Int) then
          (strings_Trim (r16.drop (i64.wrap (1 + r37)).toNat, ([0] : tB))).bind fun r40 =>
           if (!(r40 == [])) = true then
            some (((((l0b, l0c), (o1c, o1d), o2, o3), ([] : tL), false)))
           else
            (loopO log_Log_read_2.l1 ((((l0b, l0c), (o1c, o1d), o2, o3, []), r29, (r29.length : Int), 0))).bind fun ((l0b, l0c), (o1c, o1d), o2, o3, c9) =>
             (log_Log_right (((o2, o3, o1c, o1d), l0b, l0c), c9)).bind fun r66 =>
              some (((((l0b, l0c), (o1c, o1d), o2, o3), c9, r66)))
         else none
       else
        some (((((l0b, l0c), (o1c, o1d), o2, o3), ([] : tL), false)))
     else none
  else none

def log_Log_read_2.c : Callee' := mkC 68 ⟨67, 0, [.box (cr 1 (cB (cI .nil))), .box (cr 2 (cr 3 (cI (cI .nil)))), .arr .str, .map I .str], [0], (cr 0 .nil)⟩ [⟨67, 4, [.box (cr 1 (cB (cI .nil))), .box (cr 2 (cr 3 (cI (cI .nil)))), .arr .str, .map I .str], [2, 3], (.cons (.v (.sl (.st (.pair I .str)))) (cB .nil))⟩] log_Log_read_2
theorem log_Log_read_2.s : log_Log_read_2.c.ok Tryz.prog := sd 67 (.z (.seq (.rq 4 slab_Slab_Read.c) (.z (.seq (.z (.cond (.z .std) .std)) (.seq (.reg [.inl I, .std, .callq [slices_Repeat_int_int.c]]) (.seq (.rq 3 mould_Read.c) (.seq (.seq (.reg [.std, .std, .std, .std, .std, .callq [mould_Size.c], .std, .std, .callq [strings_Trim.c]]) (.cond (.z .std) .std)) (.z (.seq (.z (.block (.loop ⟨67, 4, [.box (cr 1 (cB (cI .nil))), .box (cr 2 (cr 3 (cI (cI .nil)))), .arr .str, .map I .str, .arr (.st (.pair I .str))], [0, 9, 43, 44, 45], (cr 0 (cr 4 (.cons (.v (.sl I)) (cI (cI .nil)))))⟩ [(.exit 0, ⟨67, 4, [.box (cr 1 (cB (cI .nil))), .box (cr 2 (cr 3 (cI (cI .nil)))), .arr .str, .map I .str, .arr (.st (.pair I .str))], [0, 9], (cr 0 (cr 4 .nil))⟩)]
  (.z (.seq (.cond .std .std) (.seq (.block (.z (.reg [.std, .std, .std, .std, .std, .std, .std, .std, .callq [slab_Slab_Read.c], .std, .inl (.st (.pair I .str)), .obj (.st (.pair I .str))]))) (.reg []))))))) (.seq (.rq 3 log_Log_right.c) .std)))))))))) (kc slab_Slab_Read.s (kc slices_Repeat_int_int.s (kc mould_Read.s (kc mould_Size.s (kc strings_Trim.s (kc slab_Slab_Read.s (kc log_Log_right.s kn))))))) (kc slab_Slab_Read.q (kc slices_Repeat_int_int.q (kc mould_Read.q (kc mould_Size.q (kc strings_Trim.q (kc slab_Slab_Read.q (kc log_Log_right.q kn))))))) Tryz.func68

def slab_Slab_call : ((Int × Int) × tS × tL) → Option (((Int × Int) × tS × tL) × Int) := fun ((s0c, s0d), o1, o2) =>
 ((
  if (s0d == 0) = true then
   some (.inr (((((i64.wrap (s0c + 1), s0d), o1, o2), 14))))
  else
   if decide (s0d > 0) = true then
    some (.inl (((s0c, i64.wrap (s0d - 1)), o1, o2)))
   else
    some (.inl (((s0c, s0d), o1, o2)))) : Option (((Int × Int) × tS × tL) ⊕ (((Int × Int) × tS × tL) × Int))).bind fun d => match d with
 | .inl ((s0c, s0d), o1, o2) =>
  some (((((i64.wrap (s0c + 1), s0d), o1, o2), 0)))
 | .inr ((((o0c, o0d), o1, o2), t2)) =>
  some (((((o0c, o0d), o1, o2), t2)))

def slab_Slab_call.c : Callee' := mkC 172 ⟨39, 0, [.box (cr 1 (cr 2 (cI (cI .nil)))), .arr .str, .map I .str], [0], (cr 0 .nil)⟩ [⟨39, 3, [.box (cr 1 (cr 2 (cI (cI .nil)))), .arr .str, .map I .str], [2], (cI .nil)⟩] slab_Slab_call
theorem slab_Slab_call.s : slab_Slab_call.c.ok Tryz.prog := sd 39 (.z (.join [(.norm, ⟨39, 3, [.box (cr 1 (cr 2 (cI (cI .nil)))), .arr .str, .map I .str], [0], (cr 0 .nil)⟩), (.ret, ⟨39, 3, [.box (cr 1 (cr 2 (cI (cI .nil)))), .arr .str, .map I .str], [2], (cI .nil)⟩)]
  (.block (.seq (.reg [.std, .obj .bool]) (.cond (.z .std) (.z (.cond (.z (.z .std)) (.z (.cond (.reg []) .std))))))) (.z (.z .std)))) kn kn Tryz.func172

def slab_Slab_Write : (((Int × Int) × tS × tL) × Int × tB) → Option (((Int × Int) × tS × tL) × Int) := fun (((s0c, s0d), o1, o2), i1, data2) =>
 (slab_Slab_call ((s0c, s0d), o1, o2)).bind fun (((r9, r9_2), r9_3, r9_4), r9_5) =>
  if (r9_5 != 0) = true then
   some (((((r9, r9_2), r9_3, r9_4), r9_5)))
  else
   (slab_Slab_there ((r9_3, r9_4, r9, r9_2), i1)).bind fun r15 =>
    if (!r15) = false then
     if decide ((data2.length : Int) > 128) = true then
      some (((((r9, r9_2), r9_3, r9_4), 1)))
     else
      (slab_whole data2).bind fun r28 =>
       some (((((r9, r9_2), r9_3, mput (K := I) (V := .str) r9_4 i1 r28), 0)))
    else
     some (((((r9, r9_2), r9_3, r9_4), 1)))

def slab_Slab_Write.c : Callee' := mkC 130 ⟨29, 0, [.box (cr 1 (cr 2 (cI (cI .nil)))), .arr .str, .map I .str], [0, 1, 2], (cr 0 (cI (cS .nil)))⟩ [⟨29, 3, [.box (cr 1 (cr 2 (cI (cI .nil)))), .arr .str, .map I .str], [6], (cI .nil)⟩] slab_Slab_Write
theorem slab_Slab_Write.s : slab_Slab_Write.c.ok Tryz.prog := sd 29 (.z (.seq (.seq (.reg [.std, .call [slab_Slab_call.c]]) (.z (.cond (.z .std) .std))) (.seq (.seq (.rq 2 slab_Slab_there.c) (.cond (.z .std) .std)) (.seq (.drw [.std, .std, .std, .std, .std, .std, .callq [slab_whole.c]]) (.z .std))))) (kc slab_Slab_call.s (kc slab_Slab_there.s (kc slab_whole.s kn))) (kc slab_Slab_there.q (kc slab_whole.q kn)) Tryz.func130

def maps_Keys_map_int_string_int_string : tL → Option tL := fun m0 =>
 some m0

def maps_Keys_map_int_string_int_string.c : Callee' := mkC 82 ⟨4, 0, [.map I .str], [0], (cr 0 .nil)⟩ [⟨4, 1, [.map I .str, .box (cr 0 .nil)], [2], (.cons (.fn (.func 135) .nil (cr 1 .nil)) .nil)⟩] maps_Keys_map_int_string_int_string
theorem maps_Keys_map_int_string_int_string.s : maps_Keys_map_int_string_int_string.c.ok Tryz.prog := sd 4 (.z (.z .std)) kn kn Tryz.func82

def slab_Slab_Loose : ((Int × Int) × tS × tL) → Option (((Int × Int) × tS × tL) × tI) := fun ((s0c, s0d), o1, o2) =>
 (maps_Keys_map_int_string_int_string o2).bind fun r9 =>
  (slices_Sorted r9).bind fun (r10, r10_2) =>
   some (((((s0c, s0d), o1, r10), r10_2)))

def slab_Slab_Loose.c : Callee' := mkC 29 ⟨11, 0, [.box (cr 1 (cr 2 (cI (cI .nil)))), .arr .str, .map I .str], [0], (cr 0 .nil)⟩ [⟨11, 3, [.box (cr 1 (cr 2 (cI (cI .nil)))), .arr .str, .map I .str], [2], (.cons (.v (.sl I)) .nil)⟩] slab_Slab_Loose
theorem slab_Slab_Loose.s : slab_Slab_Loose.c.ok Tryz.prog := sd 11 (.z (.seq (.seq (.reg [.std, .obj .bool]) (.cond (.z .std) .std)) (.seq (.reg [.std, .std, .std, .std, .call [maps_Keys_map_int_string_int_string.c], .call [slices_Sorted.c]]) .std))) (kc maps_Keys_map_int_string_int_string.s (kc slices_Sorted.sound kn)) kn Tryz.func29

theorem slab_Slab_Loose.q : FunQuiet slab_Slab_Loose.c.F := Sq.slab_quiet (n := 11) (m := 11) (is := [0]) (os := [2]) (so := (.cons (.v (.sl I)) .nil)) slab_Slab_Loose fun (x : (Int × Int) × List (List UInt8) × List (Int × List UInt8)) (y : ((Int × Int) × List (List UInt8) × List (Int × List UInt8)) × List Int) h => by
  obtain ⟨⟨c, u⟩, xs, es⟩ := x
  change ((slices_Sorted es).bind fun q => some (((c, u), xs, q.1), q.2)) = some y at h
  obtain ⟨q, h1, h2⟩ := Option.bind_eq_some_iff.1 h
  unfold slices_Sorted at h1
  split at h1
  · rw [← Option.some.inj h2, ← Option.some.inj h1]
    rfl
  · cases h1

def slab_Slab_Flush_1 : Int → Option (Bool) := fun t0 =>
 some true

def slab_Slab_Flush_1.c : Callee' := mkC 174 ⟨3, 0, [], [0], (cI .nil)⟩ [⟨3, 0, [], [2], (cB .nil)⟩] slab_Slab_Flush_1
theorem slab_Slab_Flush_1.q : FunQuiet slab_Slab_Flush_1.c.F := mkFun_quiet rfl rfl
theorem slab_Slab_Flush_1.s : slab_Slab_Flush_1.c.ok Tryz.prog := sd 3 (.z (.z .std)) kn kn Tryz.func174

def slab_Slab_keep.l1 : (((Int × Int) × tS × tL) × tI × Int × Int) → Option ((((Int × Int) × tS × tL) × tI × Int × Int) ⊕ ((Int × Int) × tS × tL)) := fun (((s0c, s0d), o1, o2), t7, t8, t9) =>
 if decide (t9 < t8) = true then
  if 0 ≤ t9 ∧ t9 < (t7.length : Int) then
   (slab_Slab_Flush_1 t9).bind fun r16 =>
    if r16 = true then
     if 0 ≤ t7.getD t9.toNat 0 ∧ t7.getD t9.toNat 0 < (o1.length : Int) then
      some (.inl ((((s0c, s0d), o1.set ((t7.getD t9.toNat 0).toNat) (((mget (K := I) (V := .str) o2 (t7.getD t9.toNat 0)).getD [])), o2), t7, t8, i64.wrap (t9 + 1))))
     else none
    else
     some (.inl ((((s0c, s0d), o1, o2), t7, t8, i64.wrap (t9 + 1))))
  else none
 else
  some (.inr ((((s0c, s0d), o1, o2))))

def slab_Slab_keep : ((Int × Int) × tS × tL) → Option ((Int × Int) × tS × tL) := fun ((s0c, s0d), o1, o2) =>
 (slab_Slab_Loose ((s0c, s0d), o1, o2)).bind fun ((_, _, _), r7) =>
  (loopO slab_Slab_keep.l1 ((((s0c, s0d), o1, o2), r7, (r7.length : Int), 0))).bind fun ((s0c, s0d), o1, o2) =>
   some ((((s0c, s0d), o1, ([] : tL))))

def slab_Slab_keep.c : Callee' := mkC 173 ⟨34, 0, [.box (cr 1 (cr 2 (cI (cI .nil)))), .arr .str, .map I .str], [0, 1], (cr 0 (.cons (.fn (.func 174) .nil .nil) .nil))⟩ [⟨34, 3, [.box (cr 1 (cr 2 (cI (cI .nil)))), .arr .str, .map I .str], [], .nil⟩] slab_Slab_keep
theorem slab_Slab_keep.s : slab_Slab_keep.c.ok Tryz.prog := sd 34 (.seq (.seq (.reg [.std, .callq [slab_Slab_Loose.c]]) (.block (.loop ⟨34, 3, [.box (cr 1 (cr 2 (cI (cI .nil)))), .arr .str, .map I .str], [0, 1, 7, 8, 9], (cr 0 (.cons (.fn (.func 174) .nil .nil) (.cons (.v (.sl I)) (cI (cI .nil)))))⟩ [(.exit 0, ⟨34, 3, [.box (cr 1 (cr 2 (cI (cI .nil)))), .arr .str, .map I .str], [0], (cr 0 .nil)⟩)]
  (.z (.seq (.cond .std .std) (.seq (.block (.z (.seq (.rq 2 slab_Slab_Flush_1.c) (.cond (.drw []) .std)))) (.reg []))))))) (.reg [])) (kc slab_Slab_Loose.s (kc slab_Slab_Flush_1.s kn)) (kc slab_Slab_Loose.q (kc slab_Slab_Flush_1.q kn)) Tryz.func173

def slab_Slab_Flush : ((Int × Int) × tS × tL) → Option (((Int × Int) × tS × tL) × Int) := fun ((s0c, s0d), o1, o2) =>
 (slab_Slab_call ((s0c, s0d), o1, o2)).bind fun (((r5, r5_2), r5_3, r5_4), r5_5) =>
  if (r5_5 == 0) = true then
   (slab_Slab_keep ((r5, r5_2), r5_3, r5_4)).bind fun ((r9, r9_2), r9_3, r9_4) =>
    some (((((r9, r9_2), r9_3, r9_4), r5_5)))
  else
   some (((((r5, r5_2), r5_3, r5_4), r5_5)))

def slab_Slab_Flush.c : Callee' := mkC 131 ⟨11, 0, [.box (cr 1 (cr 2 (cI (cI .nil)))), .arr .str, .map I .str], [0], (cr 0 .nil)⟩ [⟨11, 3, [.box (cr 1 (cr 2 (cI (cI .nil)))), .arr .str, .map I .str], [2], (cI .nil)⟩] slab_Slab_Flush
theorem slab_Slab_Flush.s : slab_Slab_Flush.c.ok Tryz.prog := sd 11 (.z (.seq (.reg [.std, .call [slab_Slab_call.c]]) (.seq (.z (.cond (.reg [.std, .call [slab_Slab_keep.c]]) .std)) (.z .std)))) (kc slab_Slab_call.s (kc slab_Slab_keep.s kn)) kn Tryz.func131

def log_Log_write.l1 : (((Bool × Int) × (Int × Int) × tS × tL) × (tL) × Int × Int) → Option ((((Bool × Int) × (Int × Int) × tS × tL) × (tL) × Int × Int) ⊕ (((Bool × Int) × (Int × Int) × tS × tL) ⊕ (((Bool × Int) × (Int × Int) × tS × tL) × Int))) := fun (((l0b, l0c), (o1c, o1d), o2, o3), t8, t9, t10) =>
 if decide (t10 < t9) = true then
  if 0 ≤ t10 ∧ t10 < (t8.length : Int) then
   (slab_Slab_Write (((o1c, o1d), o2, o3), t8.getD t10.toNat (0, []))).bind fun (((r22, r22_2), r22_3, r22_4), r22_5) =>
    if (r22_5 != 0) = true then
     some (.inr (.inr (((((l0b, l0c), (r22, r22_2), r22_3, r22_4), r22_5)))))
    else
     some (.inl ((((l0b, l0c), (r22, r22_2), r22_3, r22_4), t8, t9, i64.wrap (t10 + 1))))
  else none
 else
  some (.inr (.inl (((l0b, l0c), (o1c, o1d), o2, o3))))

def log_Log_write : (((Bool × Int) × (Int × Int) × tS × tL) × tL) → Option (((Bool × Int) × (Int × Int) × tS × tL) × Int) := fun (((l0b, l0c), (o1c, o1d), o2, o3), c1) =>
 (loopO log_Log_write.l1 ((((l0b, l0c), (o1c, o1d), o2, o3), c1, (c1.length : Int), 0))).bind fun d => match d with
 | .inl ((l0b, l0c), (o1c, o1d), o2, o3) =>
  (slab_Slab_Flush ((o1c, o1d), o2, o3)).bind fun (((r31, r31_2), r31_3, r31_4), r31_5) =>
   some (((((l0b, l0c), (r31, r31_2), r31_3, r31_4), r31_5)))
 | .inr ((((o0b, o0c), (o1c, o1d), o2, o3), t4)) =>
  some (((((o0b, o0c), (o1c, o1d), o2, o3), t4)))

def log_Log_write.c : Callee' := mkC 74 ⟨32, 0, [.box (cr 1 (cB (cI .nil))), .box (cr 2 (cr 3 (cI (cI .nil)))), .arr .str, .map I .str], [0, 1], (cr 0 (.cons (.v (.sl (.st (.pair I .str)))) .nil))⟩ [⟨32, 4, [.box (cr 1 (cB (cI .nil))), .box (cr 2 (cr 3 (cI (cI .nil)))), .arr .str, .map I .str], [4], (cI .nil)⟩] log_Log_write
theorem log_Log_write.s : log_Log_write.c.ok Tryz.prog := sd 32 (.z (.seq (.z (.block (.loop ⟨32, 4, [.box (cr 1 (cB (cI .nil))), .box (cr 2 (cr 3 (cI (cI .nil)))), .arr .str, .map I .str], [0, 8, 9, 10], (cr 0 (.cons (.v (.sl (.st (.pair I .str)))) (cI (cI .nil))))⟩ [(.exit 0, ⟨32, 4, [.box (cr 1 (cB (cI .nil))), .box (cr 2 (cr 3 (cI (cI .nil)))), .arr .str, .map I .str], [0], (cr 0 .nil)⟩), (.ret, ⟨32, 4, [.box (cr 1 (cB (cI .nil))), .box (cr 2 (cr 3 (cI (cI .nil)))), .arr .str, .map I .str], [4], (cI .nil)⟩)]
  (.z (.seq (.cond .std .std) (.seq (.block (.z (.seq (.drw [.std, .std, .std, .std, .std, .std, .std, .std, .call [slab_Slab_Write.c]]) (.z (.cond (.z .std) .std))))) (.reg []))))))) (.seq (.reg [.std, .std, .std, .std, .call [slab_Slab_Flush.c]]) .std))) (kc slab_Slab_Write.s (kc slab_Slab_Flush.s kn)) kn Tryz.func74

def log_Log_apply_1 : (((Bool × Int) × (Int × Int) × tS × tL) × tL) → Option (((Bool × Int) × (Int × Int) × tS × tL) × Int) := fun (((o1b, o1c), (o2c, o2d), o3, o4), t1) =>
 (log_Log_write (((o1b, o1c), (o2c, o2d), o3, o4), t1)).bind fun (((r5, r5_2), (r5_3, r5_4), r5_5, r5_6), r5_7) =>
  some (((((r5, r5_2), (r5_3, r5_4), r5_5, r5_6), r5_7)))

def log_Log_apply_1.c : Callee' := mkC 127 ⟨6, 0, [.box (cr 1 .nil), .box (cr 2 (cB (cI .nil))), .box (cr 3 (cr 4 (cI (cI .nil)))), .arr .str, .map I .str], [0, 1], (cr 0 (.cons (.v (.ptr (.sl (.st (.pair I .str))))) .nil))⟩ [⟨6, 5, [.box (cr 1 .nil), .box (cr 2 (cB (cI .nil))), .box (cr 3 (cr 4 (cI (cI .nil)))), .arr .str, .map I .str], [2], (cI .nil)⟩] log_Log_apply_1
theorem log_Log_apply_1.s : log_Log_apply_1.c.ok Tryz.prog := sd 6 (.z (.seq (.reg [.std, .std, .call [log_Log_write.c]]) .std)) (kc log_Log_write.s kn) kn Tryz.func127

def mould_Write.l2 : (tI × tI × Int × Int × tI × Int × Int) → Option ((tI × tI × Int × Int × tI × Int × Int) ⊕ (tI × tI × tI × Int × Int)) := fun (b6, widths0, v8, w9, t23, t24, t25) =>
 if decide (w9 > 0) = true then
  if roomOk (b6.length + (([u8.wrap (v8)] : tI)).length) 1 then
   some (.inl ((b6 ++ (([u8.wrap (v8)] : tI)), widths0, Int.fdiv v8 (2 ^ 8), i64.wrap (w9 - 1), t23, t24, t25)))
  else none
 else
  some (.inr (((b6, widths0, t23, t24, t25))))

def mould_Write.l1 : (tI × tI × tI × Int × Int) → Option ((tI × tI × tI × Int × Int) ⊕ (tI ⊕ (tB × Int))) := fun (b6, widths0, t23, t24, t25) =>
 if decide (t25 < t24) = true then
  if 0 ≤ t25 ∧ t25 < (t23.length : Int) then
   if 0 ≤ t25 ∧ t25 < (widths0.length : Int) then
    if decide (t23.getD t25.toNat 0 < 0) = false then
     if 0 ≤ i64.wrap (8 * (widths0.getD t25.toNat 0)) then
      if (Int.fdiv (t23.getD t25.toNat 0) (2 ^ (min (i64.wrap (8 * (widths0.getD t25.toNat 0))).toNat 64)) != 0) = true then
       some (.inr (.inr ((([], 3)))))
      else
       (loopO mould_Write.l2 ((b6, widths0, t23.getD t25.toNat 0, widths0.getD t25.toNat 0, t23, t24, t25))).bind fun (b6, widths0, t23, t24, t25) =>
        some (.inl ((b6, widths0, t23, t24, i64.wrap (t25 + 1))))
     else none
    else
     some (.inr (.inr ((([], 3)))))
   else none
  else none
 else
  some (.inr (.inl b6))

def mould_Write : (tI × tI) → Option (tB × Int) := fun (widths0, values1) =>
 (mould_Size widths0).bind fun r11 =>
  if decide (r11 < 0) = false then
   if ((widths0.length : Int) != (values1.length : Int)) = true then
    some ((([], 1)))
   else
    (mould_Size widths0).bind fun r21 =>
     if 0 ≤ (0 : Int) ∧ (0 : Int) ≤ r21 ∧ r21 * (1 : Nat) ≤ 140737488355328 ∧ r21 ≤ 9223372036854775807 then
      (loopO mould_Write.l1 ((List.replicate 0 (0 : Int), widths0, values1, (values1.length : Int), 0))).bind fun d => match d with
      | .inl b6 =>
       some (((b6.map fun (n : Int) => UInt8.ofNat n.toNat, 0)))
      | .inr ((t4, t5)) =>
       some (((t4, t5)))
     else none
  else
   some ((([], 1)))

def mould_Write.c : Callee' := mkC 132 ⟨57, 0, [], [0, 1], (.cons (.v (.sl I)) (.cons (.v (.sl I)) .nil))⟩ [⟨57, 0, [], [4, 5], (cS (cI .nil))⟩] mould_Write
theorem mould_Write.q : FunQuiet mould_Write.c.F := mkFun_quiet rfl rfl
theorem mould_Write.s : mould_Write.c.ok Tryz.prog := sd 57 (.z (.seq (.seq (.reg [.std, .callq [mould_Size.c]]) (.cond (.z .std) .std)) (.seq (.reg [.std, .callq [mould_Size.c], .obj (.int .u8)]) (.seq (.z (.block (.loop ⟨57, 0, [.arr (.int .u8)], [0, 6, 23, 24, 25], (.cons (.v (.sl I)) (cr 0 (.cons (.v (.sl I)) (cI (cI .nil)))))⟩ [(.exit 0, ⟨57, 0, [.arr (.int .u8)], [6], (cr 0 .nil)⟩), (.ret, ⟨57, 0, [], [4, 5], (cS (cI .nil))⟩)]
  (.z (.seq (.cond .std .std) (.seq (.block (.z (.z (.seq (.z (.cond (.z .std) .std)) (.block (.loop ⟨57, 0, [.arr (.int .u8)], [0, 6, 8, 9, 23, 24, 25], (.cons (.v (.sl I)) (cr 0 (cI (cI (.cons (.v (.sl I)) (cI (cI .nil)))))))⟩ [(.exit 2, ⟨57, 0, [.arr (.int .u8)], [0, 6, 23, 24, 25], (.cons (.v (.sl I)) (cr 0 (.cons (.v (.sl I)) (cI (cI .nil)))))⟩)]
  (.seq (.z (.cond .std .std)) (.seq (.block (.seq (.reg [.std, .std, .std, .inl (.int .u8), .obj (.int .u8)]) (.reg []))) (.reg []))))))))) (.reg []))))))) (.z .std))))) (kc mould_Size.s (kc mould_Size.s kn)) (kc mould_Size.q (kc mould_Size.q kn)) Tryz.func132

def log_headOf : tI → Option tL := fun blocks0 =>
 (slices_Repeat_int_int (([2] : tI), (blocks0.length : Int))).bind fun r9 =>
  (mould_Write (r9, blocks0)).bind fun (r11, r11_2) =>
   if ((([u8.wrap ((blocks0.length : Int))] : tI)).map fun (n : Int) => UInt8.ofNat n.toNat).length + r11.length ≤ 9223372036854775807 then
    (mould_Pad (((([u8.wrap ((blocks0.length : Int))] : tI)).map fun (n : Int) => UInt8.ofNat n.toNat) ++ r11, 128)).bind fun (r22, r22_2) =>
     some ((([(1, r22)] : tL)))
   else none

def log_headOf.c : Callee' := mkC 76 ⟨28, 0, [], [0], (.cons (.v (.sl I)) .nil)⟩ [⟨28, 0, [], [2], (.cons (.v (.sl (.st (.pair I .str)))) .nil)⟩] log_headOf
theorem log_headOf.q : FunQuiet log_headOf.c.F := mkFun_quiet rfl rfl
theorem log_headOf.s : log_headOf.c.ok Tryz.prog := sd 28 (.z (.seq (.reg [.inl I, .std, .std, .callq [slices_Repeat_int_int.c], .std, .callq [mould_Write.c]]) (.seq (.reg [.std, .std, .std, .inl (.int .u8), .std, .std, .std, .callq [mould_Pad.c]]) (.seq (.reg [.std, .std, .inl (.st (.pair I .str))]) .std)))) (kc slices_Repeat_int_int.s (kc mould_Write.s (kc mould_Pad.s kn))) (kc slices_Repeat_int_int.q (kc mould_Write.q (kc mould_Pad.q kn))) Tryz.func76

def log_Log_apply_2 : ((Bool × Int) × (Int × Int) × tS × tL) → Option (((Bool × Int) × (Int × Int) × tS × tL) × Int) := fun ((o1b, o1c), (o2c, o2d), o3, o4) =>
 (log_headOf ([] : tI)).bind fun r3 =>
  (log_Log_write (((o1b, o1c), (o2c, o2d), o3, o4), r3)).bind fun (((r4, r4_2), (r4_3, r4_4), r4_5, r4_6), r4_7) =>
   some (((((r4, r4_2), (r4_3, r4_4), r4_5, r4_6), r4_7)))

def log_Log_apply_2.c : Callee' := mkC 128 ⟨5, 0, [.box (cr 1 .nil), .box (cr 2 (cB (cI .nil))), .box (cr 3 (cr 4 (cI (cI .nil)))), .arr .str, .map I .str], [0], (cr 0 .nil)⟩ [⟨5, 5, [.box (cr 1 .nil), .box (cr 2 (cB (cI .nil))), .box (cr 3 (cr 4 (cI (cI .nil)))), .arr .str, .map I .str], [1], (cI .nil)⟩] log_Log_apply_2
theorem log_Log_apply_2.s : log_Log_apply_2.c.ok Tryz.prog := sd 5 (.z (.seq (.drw [.std, .callq [log_headOf.c], .call [log_Log_write.c]]) .std)) (kc log_headOf.s (kc log_Log_write.s kn)) (kc log_headOf.q kn) Tryz.func128

def log_all : ((tL) × (Bool × Int) × (Int × Int) × tS × tL) → Option (((tL) × (Bool × Int) × (Int × Int) × tS × tL) × Int) := fun (o1, (o2b, o2c), (o3c, o3d), o4, o5) =>
 (log_Log_apply_1 (((o2b, o2c), (o3c, o3d), o4, o5), o1)).bind fun (((r13, r13_2), (r13_3, r13_4), r13_5, r13_6), r13_7) =>
  if (r13_7 != 0) = true then
   some ((((o1, (r13, r13_2), (r13_3, r13_4), r13_5, r13_6), r13_7)))
  else
   (log_Log_apply_2 ((r13, r13_2), (r13_3, r13_4), r13_5, r13_6)).bind fun (((r13a, r13a_2), (r13a_3, r13a_4), r13a_5, r13a_6), r13a_7) =>
    if (r13a_7 != 0) = true then
     some ((((o1, (r13a, r13a_2), (r13a_3, r13a_4), r13a_5, r13a_6), r13a_7)))
    else
     some ((((o1, (r13a, r13a_2), (r13a_3, r13a_4), r13a_5, r13a_6), 0)))

def log_all.c : Callee' := mkC 72 ⟨18, 0, [.box (cr 2 .nil), .box (.cons (.v (.sl (.st (.pair I .str)))) .nil), .box (cr 3 (cB (cI .nil))), .box (cr 4 (cr 5 (cI (cI .nil)))), .arr .str, .map I .str], [0], (.cons (.fsl (.cons (.fn (.func 127) .nil (cr 0 (cr 1 .nil))) (.cons (.fn (.func 128) .nil (cr 0 .nil)) .nil))) .nil)⟩ [⟨18, 6, [.box (cr 2 .nil), .box (.cons (.v (.sl (.st (.pair I .str)))) .nil), .box (cr 3 (cB (cI .nil))), .box (cr 4 (cr 5 (cI (cI .nil)))), .arr .str, .map I .str], [2], (cI .nil)⟩] log_all
theorem log_all.s : log_all.c.ok Tryz.prog := sd 18 (.z (.seq (.z (.block (.unroll (.z (.seq (.cond .std .std) (.seq (.block (.z (.seq (.reg [.std, .call [log_Log_apply_1.c, log_Log_apply_2.c]]) (.z (.cond (.z .std) .std))))) (.reg [])))) (.unroll (.z (.seq (.cond .std .std) (.seq (.block (.z (.seq (.reg [.std, .call [log_Log_apply_1.c, log_Log_apply_2.c]]) (.z (.cond (.z .std) .std))))) (.reg [])))) (.unroll (.z (.seq (.cond .std .std) (.seq (.block (.z (.seq (.reg [.std, .call [log_Log_apply_1.c, log_Log_apply_2.c]]) (.z (.cond (.z .std) .std))))) (.reg [])))) .std))))) (.z .std))) (kc log_Log_apply_1.s (kc log_Log_apply_2.s (kc log_Log_apply_1.s (kc log_Log_apply_2.s (kc log_Log_apply_1.s (kc log_Log_apply_2.s kn)))))) kn Tryz.func72

def log_Log_apply : (((Bool × Int) × (Int × Int) × tS × tL) × tL) → Option (((Bool × Int) × (Int × Int) × tS × tL) × Int) := fun (((l0b, l0c), (o1c, o1d), o2, o3), c1) =>
 (log_all (c1, (l0b, l0c), (o1c, o1d), o2, o3)).bind fun ((r8, (r8_2, r8_3), (r8_4, r8_5), r8_6, r8_7), r8_8) =>
  some (((((r8_2, r8_3), (r8_4, r8_5), r8_6, r8_7), r8_8)))

def log_Log_apply.c : Callee' := mkC 69 ⟨9, 0, [.box (cr 1 (cB (cI .nil))), .box (cr 2 (cr 3 (cI (cI .nil)))), .arr .str, .map I .str], [0, 1], (cr 0 (.cons (.v (.sl (.st (.pair I .str)))) .nil))⟩ [⟨9, 4, [.box (cr 1 (cB (cI .nil))), .box (cr 2 (cr 3 (cI (cI .nil)))), .arr .str, .map I .str], [4], (cI .nil)⟩] log_Log_apply
theorem log_Log_apply.s : log_Log_apply.c.ok Tryz.prog := sd 9 (.z (.seq (.reg [.std, .std, .std, .call [log_all.c]]) .std)) (kc log_all.s kn) kn Tryz.func69

def log_Open : ((Int × Int) × tS × tL) → Option ((((Int × Int) × tS × tL) × Int) ⊕ (((Int × Int) × tS × (tL) × Bool × Int) × Int)) := fun ((s0c, s0d), o1, o2) =>
 (slab_Slab_Size (o1, o2, s0c, s0d)).bind fun r12 =>
  if decide (r12 < 64) = true then
   some (.inl ((((s0c, s0d), o1, o2), 1)))
  else
   (log_Log_read_2 ((false, 0), (s0c, s0d), o1, o2)).bind fun (((r20, r20_2), (r20_3, r20_4), r20_5, r20_6), r20_7, r20_8) =>
    if (!r20_8) = true then
     some (.inl ((((r20_3, r20_4), r20_5, r20_6), 15)))
    else
     if decide ((r20_7.length : Int) > 0) = true then
      (log_Log_apply (((r20, r20_2), (r20_3, r20_4), r20_5, r20_6), r20_7)).bind fun (((r30, r30_2), (r30_3, r30_4), r30_5, r30_6), r30_7) =>
       if (r30_7 != 0) = true then
        some (.inl ((((r30_3, r30_4), r30_5, r30_6), r30_7)))
       else
        some (.inr (((((r30_3, r30_4), r30_5, r30_6, r30, r30_2), 0))))
     else
      some (.inr (((((r20_3, r20_4), r20_5, r20_6, r20, r20_2), 0))))

def log_Open.c : Callee' := mkC 16 ⟨35, 0, [.box (cr 1 (cr 2 (cI (cI .nil)))), .arr .str, .map I .str], [0], (cr 0 .nil)⟩ [⟨35, 3, [.box (cr 1 (cr 2 (cI (cI .nil)))), .arr .str, .map I .str], [2, 3], (.cons (.nilptr) (cI .nil))⟩, ⟨35, 3, [.box (cr 1 (cr 2 (cI (cI .nil)))), .arr .str, .map I .str, .box (cr 0 (cB (cI .nil)))], [2, 3], (cr 3 (cI .nil))⟩] log_Open
theorem log_Open.s : log_Open.c.ok Tryz.prog := sd 35 (.z (.seq (.seq (.reg [.std, .obj .bool, .std, .std, .callq [slab_Slab_Size.c]]) (.cond (.z .std) .std)) (.z (.seq (.reg [.std, .call [log_Log_read_2.c]]) (.seq (.z (.cond (.z .std) .std)) (.seq (.z (.cond (.seq (.reg [.std, .std, .call [log_Log_apply.c]]) (.z (.cond (.z .std) .std))) .std)) (.z .std))))))) (kc slab_Slab_Size.s (kc log_Log_read_2.s (kc log_Log_apply.s kn))) (kc slab_Slab_Size.q kn) Tryz.func16

def deal_Begin : Unit → Option (Int) := fun _ =>
 some 1

def deal_Begin.c : Callee' := mkC 46 ⟨11, 0, [], [0], (.cons (.nilptr) .nil)⟩ [⟨11, 0, [], [2, 3], (.cons (.nilptr) (cI .nil))⟩] deal_Begin
theorem deal_Begin.q : FunQuiet deal_Begin.c.F := mkFun_quiet rfl rfl
theorem deal_Begin.s : deal_Begin.c.ok Tryz.prog := sd 11 (.z (.seq (.seq (.reg [.std, .obj .bool]) (.cond (.z .std) .std)) (.seq (.reg [.std, .mp I .str]) .std))) kn kn Tryz.func46

def deal_Begin_1 : ((tS × (tL) × Int × Int) × Bool × Int) → Option ((((tS × (tL) × Int × Int) × Bool × Int) × tL) × Int) := fun l0 =>
 some ((((l0, ([] : tL)), 0)))

def deal_Begin_1.c : Callee' := mkC 46 ⟨11, 0, [], [0], (.cons (.v (.ptr (.pair (.ptr (.pair (.sl .str) (.pair (.map I .str) (.pair I I)))) (.pair .bool I)))) .nil)⟩ [⟨11, 0, [.box (.cons (.v (.ptr (.pair (.ptr (.pair (.sl .str) (.pair (.map I .str) (.pair I I)))) (.pair .bool I)))) (cr 1 .nil)), .map I .str], [2, 3], (cr 0 (cI .nil))⟩] deal_Begin_1
theorem deal_Begin_1.s : deal_Begin_1.c.ok Tryz.prog := sd 11 (.z (.seq (.seq (.reg [.std, .obj .bool]) (.cond (.z .std) .std)) (.seq (.reg [.std, .mp I .str]) .std))) kn kn Tryz.func46

def deal_Begin_2 : ((Bool × Int) × (Int × Int) × tS × tL) → Option (((Bool × Int) × (Int × Int) × tS × (tL) × tL) × Int) := fun ((l0b, l0c), (o1c, o1d), o2, o3) =>
 some (((((l0b, l0c), (o1c, o1d), o2, o3, ([] : tL)), 0)))

def deal_Begin_2.c : Callee' := mkC 46 ⟨11, 0, [.box (cr 1 (cB (cI .nil))), .box (cr 2 (cr 3 (cI (cI .nil)))), .arr .str, .map I .str], [0], (cr 0 .nil)⟩ [⟨11, 4, [.box (cr 1 (cB (cI .nil))), .box (cr 2 (cr 3 (cI (cI .nil)))), .arr .str, .map I .str, .box (cr 0 (cr 5 .nil)), .map I .str], [2, 3], (cr 4 (cI .nil))⟩] deal_Begin_2
theorem deal_Begin_2.s : deal_Begin_2.c.ok Tryz.prog := sd 11 (.z (.seq (.seq (.reg [.std, .obj .bool]) (.cond (.z .std) .std)) (.seq (.reg [.std, .mp I .str]) .std))) kn kn Tryz.func46

def lw12_begin : Int → Option (((Int × Int) × tS × tL) ⊕ ((Int × Int) × tS × (tL) × (Bool × Int) × tL)) := fun n0 =>
 (slab_New n0).bind fun ((r10, r10_2), r10_3, r10_4) =>
  (log_Open ((r10, r10_2), r10_3, r10_4)).bind fun d => match d with
  | .inl (((r13, r13_2), r13_3, r13_4), r13_5) =>
   if (r13_5 != 0) = true then
    some (.inl (((r13, r13_2), r13_3, r13_4)))
   else
    (deal_Begin ()).bind fun r21 =>
     if (r21 != 0) = true then
      some (.inl (((r13, r13_2), r13_3, r13_4)))
     else
      some (.inl (((r13, r13_2), r13_3, r13_4)))
  | .inr ((((r13b, r13_2b), r13_3b, r13_4b, r13_5b, r13_6b), r13_7b)) =>
   if (r13_7b != 0) = true then
    some (.inl (((r13b, r13_2b), r13_3b, r13_4b)))
   else
    (deal_Begin_2 ((r13_5b, r13_6b), (r13b, r13_2b), r13_3b, r13_4b)).bind fun (((r21a, r21a_2), (r21a_3, r21a_4), r21a_5, r21a_6, r21a_7), r21a_8) =>
     if (r21a_8 != 0) = true then
      some (.inl (((r21a_3, r21a_4), r21a_5, r21a_6)))
     else
      some (.inr ((((r21a_3, r21a_4), r21a_5, r21a_6, (r21a, r21a_2), r21a_7))))

def lw12_begin.c : Callee' := mkC 58 ⟨29, 0, [], [0], (cI .nil)⟩ [⟨29, 0, [.box (cr 1 (cr 2 (cI (cI .nil)))), .arr .str, .map I .str], [2, 3], (cr 0 (.cons (.nilptr) .nil))⟩, ⟨29, 0, [.box (cr 2 (cr 3 (cI (cI .nil)))), .box (cr 4 (cr 5 .nil)), .arr .str, .map I .str, .box (cr 0 (cB (cI .nil))), .map I .str], [2, 3], (cr 0 (cr 1 .nil))⟩] lw12_begin
theorem lw12_begin.s : lw12_begin.c.ok Tryz.prog := sd 29 (.z (.seq (.reg [.std, .call [slab_New.c]]) (.seq (.reg [.std, .call [log_Open.c]]) (.seq (.z (.cond (.z .std) .std)) (.seq (.reg [.std, .call [deal_Begin.c, deal_Begin_2.c]]) (.seq (.z (.cond (.z .std) .std)) (.z .std))))))) (kc slab_New.s (kc log_Open.s (kc deal_Begin.s (kc deal_Begin_2.s kn)))) kn Tryz.func58

def log_Log_Size : ((tS × (tL) × Int × Int) × Bool × Int) → Option (Int) := fun l0 =>
 (slab_Slab_Size l0.1).bind fun r9 =>
  some r9

def log_Log_Size.c : Callee' := mkC 20 ⟨10, 0, [], [0], (.cons (.v (.ptr (.pair (.ptr (.pair (.sl .str) (.pair (.map I .str) (.pair I I)))) (.pair .bool I)))) .nil)⟩ [⟨10, 0, [], [2], (cI .nil)⟩] log_Log_Size
theorem log_Log_Size.q : FunQuiet log_Log_Size.c.F := mkFun_quiet rfl rfl
theorem log_Log_Size.s : log_Log_Size.c.ok Tryz.prog := sd 10 (.z (.seq (.seq (.reg [.std, .obj .bool]) (.cond (.z .std) .std)) (.seq (.rq 4 slab_Slab_Size.c) .std))) (kc slab_Slab_Size.s kn) (kc slab_Slab_Size.q kn) Tryz.func20

def deal_written_there : ((((tS × (tL) × Int × Int) × Bool × Int) × tL) × Int) → Option (Bool) := fun (w0, i1) =>
 if decide (i1 ≥ 0) = true then
  (log_Log_Size w0.1).bind fun r13 =>
   if decide (i1 < r13) = true then
    if decide (i1 < 1) = false then
     some ((decide (i1 > 41)))
    else
     some true
   else
    some false
 else
  some false

def deal_written_there.c : Callee' := mkC 103 ⟨24, 0, [], [0, 1], (.cons (.v (.ptr (.pair (.ptr (.pair (.ptr (.pair (.sl .str) (.pair (.map I .str) (.pair I I)))) (.pair .bool I))) (.map I .str)))) (cI .nil))⟩ [⟨24, 0, [], [4], (cB .nil)⟩] deal_written_there
theorem deal_written_there.q : FunQuiet deal_written_there.c.F := mkFun_quiet rfl rfl
theorem deal_written_there.s : deal_written_there.c.ok Tryz.prog := sd 24 (.z (.seq (.rq 8 log_Log_Size.c) .std)) (kc log_Log_Size.s kn) (kc log_Log_Size.q kn) Tryz.func103

def deal_Deal_Write : (((Bool × Int) × (tL) × (Int × Int) × tS × tL) × Int × tB) → Option (((Bool × Int) × (tL) × (Int × Int) × tS × tL) × Int) := fun (((o1b, o1c), o2, (o3c, o3d), o4, o5), i1, data2) =>
 (deal_written_there ((((o4, o5, o3c, o3d), o1b, o1c), o2), i1)).bind fun r16 =>
  if (!r16) = true then
   some (((((o1b, o1c), o2, (o3c, o3d), o4, o5), 1)))
  else
   (mould_Pad (data2, 128)).bind fun (r21, r21_2) =>
    if (r21_2 != 0) = true then
     some (((((o1b, o1c), o2, (o3c, o3d), o4, o5), 1)))
    else
     some (((((o1b, o1c), mput (K := I) (V := .str) o2 i1 r21, (o3c, o3d), o4, o5), 0)))

def deal_Deal_Write.c : Callee' := mkC 53 ⟨33, 0, [.box (cr 1 (cr 2 .nil)), .box (cr 3 (cB (cI .nil))), .map I .str, .box (cr 4 (cr 5 (cI (cI .nil)))), .arr .str, .map I .str], [0, 1, 2], (cr 0 (cI (cS .nil)))⟩ [⟨33, 6, [.box (cr 1 (cr 2 .nil)), .box (cr 3 (cB (cI .nil))), .map I .str, .box (cr 4 (cr 5 (cI (cI .nil)))), .arr .str, .map I .str], [6], (cI .nil)⟩] deal_Deal_Write
theorem deal_Deal_Write.s : deal_Deal_Write.c.ok Tryz.prog := sd 33 (.z (.seq (.seq (.reg [.std, .obj .bool, .std, .std, .std, .std, .std, .callq [deal_written_there.c]]) (.cond (.z .std) .std)) (.seq (.reg [.std, .callq [mould_Pad.c]]) (.seq (.z (.cond (.z .std) .std)) (.z (.z .std)))))) (kc deal_written_there.s (kc mould_Pad.s kn)) (kc deal_written_there.q (kc mould_Pad.q kn)) Tryz.func53

def log_Log_Read : (((tS × (tL) × Int × Int) × Bool × Int) × Int) → Option tB := fun (l0, i1) =>
 (slab_Slab_Read (l0.1, i1)).bind fun r12 =>
  some r12

def log_Log_Read.c : Callee' := mkC 17 ⟨13, 0, [], [0, 1], (.cons (.v (.ptr (.pair (.ptr (.pair (.sl .str) (.pair (.map I .str) (.pair I I)))) (.pair .bool I)))) (cI .nil))⟩ [⟨13, 0, [], [4], (cS .nil)⟩] log_Log_Read
theorem log_Log_Read.q : FunQuiet log_Log_Read.c.F := mkFun_quiet rfl rfl
theorem log_Log_Read.s : log_Log_Read.c.ok Tryz.prog := sd 13 (.z (.seq (.seq (.reg [.std, .obj .bool]) (.cond (.z .std) .std)) (.seq (.rq 5 slab_Slab_Read.c) .std))) (kc slab_Slab_Read.s kn) (kc slab_Slab_Read.q kn) Tryz.func17

def deal_written_get : ((((tS × (tL) × Int × Int) × Bool × Int) × tL) × Int) → Option tB := fun (w0, i1) =>
 if (mget (K := I) (V := .str) w0.2 i1).isSome = true then
  some ((((mget (K := I) (V := .str) w0.2 i1).getD [])))
 else
  (log_Log_Read (w0.1, i1)).bind fun r23 =>
   some r23

def deal_written_get.c : Callee' := mkC 104 ⟨24, 0, [], [0, 1], (.cons (.v (.ptr (.pair (.ptr (.pair (.ptr (.pair (.sl .str) (.pair (.map I .str) (.pair I I)))) (.pair .bool I))) (.map I .str)))) (cI .nil))⟩ [⟨24, 0, [], [4], (cS .nil)⟩] deal_written_get
theorem deal_written_get.q : FunQuiet deal_written_get.c.F := mkFun_quiet rfl rfl
theorem deal_written_get.s : deal_written_get.c.ok Tryz.prog := sd 24 (.z (.seq (.z (.z (.cond (.z .std) .std))) (.seq (.rq 5 log_Log_Read.c) .std))) (kc log_Log_Read.s kn) (kc log_Log_Read.q kn) Tryz.func104

def deal_Deal_Read : ((((tS × (tL) × Int × Int) × Bool × Int) × tL) × Int) → Option (tB × Int) := fun (d0, i1) =>
 (deal_written_there (d0, i1)).bind fun r13 =>
  if (!r13) = true then
   some ((([], 1)))
  else
   (deal_written_get (d0, i1)).bind fun r20 =>
    some (((r20, 0)))

def deal_Deal_Read.c : Callee' := mkC 49 ⟨21, 0, [], [0, 1], (.cons (.v (.ptr (.pair (.ptr (.pair (.ptr (.pair (.sl .str) (.pair (.map I .str) (.pair I I)))) (.pair .bool I))) (.map I .str)))) (cI .nil))⟩ [⟨21, 0, [], [4, 5], (cS (cI .nil))⟩] deal_Deal_Read
theorem deal_Deal_Read.q : FunQuiet deal_Deal_Read.c.F := mkFun_quiet rfl rfl
theorem deal_Deal_Read.s : deal_Deal_Read.c.ok Tryz.prog := sd 21 (.z (.seq (.seq (.reg [.std, .obj .bool, .std, .std, .std, .std, .std, .callq [deal_written_there.c]]) (.cond (.z .std) .std)) (.seq (.rq 4 deal_written_get.c) .std))) (kc deal_written_there.s (kc deal_written_get.s kn)) (kc deal_written_there.q (kc deal_written_get.q kn)) Tryz.func49

def rf01_Zeros : Int → Option tB := fun n0 =>
 if 0 ≤ n0 ∧ n0 ≤ n0 ∧ n0 * (1 : Nat) ≤ 140737488355328 ∧ n0 ≤ 9223372036854775807 then
  some (((List.replicate n0.toNat (0 : Int)).map fun (n : Int) => UInt8.ofNat n.toNat))
 else none

def rf01_Zeros.c : Callee' := mkC 83 ⟨6, 0, [], [0], (cI .nil)⟩ [⟨6, 0, [], [2], (cS .nil)⟩] rf01_Zeros
theorem rf01_Zeros.q : FunQuiet rf01_Zeros.c.F := mkFun_quiet rfl rfl
theorem rf01_Zeros.s : rf01_Zeros.c.ok Tryz.prog := sd 6 (.z (.seq (.reg [.std, .obj (.int .u8)]) .std)) kn kn Tryz.func83

def rf02_Whole : tB → Option tB := fun s0 =>
 if 0 ≤ (if 128 < (s0.length : Int) then 128 else (s0.length : Int)) ∧ (if 128 < (s0.length : Int) then 128 else (s0.length : Int)) ≤ (s0.length : Int) then
  (rf01_Zeros (i64.wrap (128 - ((s0.take ((if 128 < (s0.length : Int) then 128 else (s0.length : Int))).toNat).length : Int)))).bind fun r12 =>
   if (s0.take ((if 128 < (s0.length : Int) then 128 else (s0.length : Int))).toNat).length + r12.length ≤ 9223372036854775807 then
    some (((s0.take ((if 128 < (s0.length : Int) then 128 else (s0.length : Int))).toNat) ++ r12))
   else none
 else none

def rf02_Whole.c : Callee' := mkC 31 ⟨14, 0, [], [0], (cS .nil)⟩ [⟨14, 0, [], [2], (cS .nil)⟩] rf02_Whole
theorem rf02_Whole.q : FunQuiet rf02_Whole.c.F := mkFun_quiet rfl rfl
theorem rf02_Whole.s : rf02_Whole.c.ok Tryz.prog := sd 14 (.z (.z (.seq (.rq 4 rf01_Zeros.c) .std))) (kc rf01_Zeros.s kn) (kc rf01_Zeros.q kn) Tryz.func31

def deal_written_changes.l1 : (((Bool × Int) × (tL) × (Int × Int) × tS × (tL) × tL) × tI × Int × Int) → Option ((((Bool × Int) × (tL) × (Int × Int) × tS × (tL) × tL) × tI × Int × Int) ⊕ ((Bool × Int) × (tL) × (Int × Int) × tS × (tL) × tL)) := fun (((o1b, o1c), o2, (o3c, o3d), o4, o5, c3), t12, t13, t14) =>
 if decide (t14 < t13) = true then
  if 0 ≤ t14 ∧ t14 < (t12.length : Int) then
   (log_Log_Read (((o4, o5, o3c, o3d), o1b, o1c), t12.getD t14.toNat 0)).bind fun r30 =>
    if (!((((mget (K := I) (V := .str) o2 (t12.getD t14.toNat 0)).getD [])) == r30)) = true then
     if roomOk (c3.length + (([(t12.getD t14.toNat 0, ((mget (K := I) (V := .str) o2 (t12.getD t14.toNat 0)).getD []))] : tL)).length) 24 then
      some (.inl ((((o1b, o1c), o2, (o3c, o3d), o4, o5, c3 ++ (([(t12.getD t14.toNat 0, ((mget (K := I) (V := .str) o2 (t12.getD t14.toNat 0)).getD []))] : tL))), t12, t13, i64.wrap (t14 + 1))))
     else none
    else
     some (.inl ((((o1b, o1c), o2, (o3c, o3d), o4, o5, c3), t12, t13, i64.wrap (t14 + 1))))
  else none
 else
  some (.inr ((((o1b, o1c), o2, (o3c, o3d), o4, o5, c3))))

def deal_written_changes : ((Bool × Int) × (tL) × (Int × Int) × tS × tL) → Option (((Bool × Int) × (tL) × (Int × Int) × tS × tL) × tL) := fun ((o1b, o1c), o2, (o3c, o3d), o4, o5) =>
 (maps_Keys_map_int_string_int_string o2).bind fun r11 =>
  (slices_Sorted r11).bind fun (r12, r12_2) =>
   (loopO deal_written_changes.l1 ((((o1b, o1c), r12, (o3c, o3d), o4, o5, []), r12_2, (r12_2.length : Int), 0))).bind fun ((o1b, o1c), o2, (o3c, o3d), o4, o5, c3) =>
    some (((((o1b, o1c), o2, (o3c, o3d), o4, o5), c3)))

def deal_written_changes.c : Callee' := mkC 102 ⟨40, 0, [.box (cr 1 (cr 2 .nil)), .box (cr 3 (cB (cI .nil))), .map I .str, .box (cr 4 (cr 5 (cI (cI .nil)))), .arr .str, .map I .str], [0], (cr 0 .nil)⟩ [⟨40, 6, [.box (cr 1 (cr 2 .nil)), .box (cr 3 (cB (cI .nil))), .map I .str, .box (cr 4 (cr 5 (cI (cI .nil)))), .arr .str, .map I .str], [2], (.cons (.v (.sl (.st (.pair I .str)))) .nil)⟩] deal_written_changes
theorem deal_written_changes.s : deal_written_changes.c.ok Tryz.prog := sd 40 (.z (.z (.seq (.seq (.reg [.std, .std, .std, .std, .call [maps_Keys_map_int_string_int_string.c], .call [slices_Sorted.c]]) (.block (.loop ⟨40, 6, [.box (cr 1 (cr 2 .nil)), .box (cr 3 (cB (cI .nil))), .map I .str, .box (cr 4 (cr 5 (cI (cI .nil)))), .arr .str, .map I .str, .arr (.st (.pair I .str))], [0, 3, 12, 13, 14], (cr 0 (cr 6 (.cons (.v (.sl I)) (cI (cI .nil)))))⟩ [(.exit 0, ⟨40, 6, [.box (cr 1 (cr 2 .nil)), .box (cr 3 (cB (cI .nil))), .map I .str, .box (cr 4 (cr 5 (cI (cI .nil)))), .arr .str, .map I .str, .arr (.st (.pair I .str))], [3], (cr 6 .nil)⟩)]
  (.z (.seq (.cond .std .std) (.seq (.block (.z (.z (.seq (.rq 6 log_Log_Read.c) (.cond (.reg [.std, .std, .std, .std, .inl (.st (.pair I .str)), .obj (.st (.pair I .str))]) .std))))) (.reg []))))))) (.z .std)))) (kc maps_Keys_map_int_string_int_string.s (kc slices_Sorted.sound (kc log_Log_Read.s kn))) (kc log_Log_Read.q kn) Tryz.func102

def deal_Deal_Changed.l1 : (((Bool × Int) × (tL) × (Int × Int) × tS × (tL) × tI) × (tL) × Int × Int) → Option ((((Bool × Int) × (tL) × (Int × Int) × tS × (tL) × tI) × (tL) × Int × Int) ⊕ ((Bool × Int) × (tL) × (Int × Int) × tS × (tL) × tI)) := fun (((o1b, o1c), o2, (o3c, o3d), o4, o5, l3), t11, t12, t13) =>
 if decide (t13 < t12) = true then
  if 0 ≤ t13 ∧ t13 < (t11.length : Int) then
   if roomOk (l3.length + (([(t11.getD t13.toNat (0, [])).1] : tI)).length) 8 then
    some (.inl ((((o1b, o1c), o2, (o3c, o3d), o4, o5, l3 ++ (([(t11.getD t13.toNat (0, [])).1] : tI))), t11, t12, i64.wrap (t13 + 1))))
   else none
  else none
 else
  some (.inr ((((o1b, o1c), o2, (o3c, o3d), o4, o5, l3))))

def deal_Deal_Changed : ((Bool × Int) × (tL) × (Int × Int) × tS × tL) → Option (((Bool × Int) × (tL) × (Int × Int) × tS × tL) × tI) := fun ((o1b, o1c), o2, (o3c, o3d), o4, o5) =>
 (deal_written_changes ((o1b, o1c), o2, (o3c, o3d), o4, o5)).bind fun (((r11, r11_2), r11_3, (r11_4, r11_5), r11_6, r11_7), r11_8) =>
  (loopO deal_Deal_Changed.l1 ((((r11, r11_2), r11_3, (r11_4, r11_5), r11_6, r11_7, []), r11_8, (r11_8.length : Int), 0))).bind fun ((o1b, o1c), o2, (o3c, o3d), o4, o5, l3) =>
   some (((((o1b, o1c), o2, (o3c, o3d), o4, o5), l3)))

def deal_Deal_Changed.c : Callee' := mkC 47 ⟨24, 0, [.box (cr 1 (cr 2 .nil)), .box (cr 3 (cB (cI .nil))), .map I .str, .box (cr 4 (cr 5 (cI (cI .nil)))), .arr .str, .map I .str], [0], (cr 0 .nil)⟩ [⟨24, 6, [.box (cr 1 (cr 2 .nil)), .box (cr 3 (cB (cI .nil))), .map I .str, .box (cr 4 (cr 5 (cI (cI .nil)))), .arr .str, .map I .str], [2], (.cons (.v (.sl I)) .nil)⟩] deal_Deal_Changed
theorem deal_Deal_Changed.s : deal_Deal_Changed.c.ok Tryz.prog := sd 24 (.z (.seq (.seq (.reg [.std, .obj .bool]) (.cond (.z .std) .std)) (.z (.seq (.seq (.reg [.std, .std, .std, .call [deal_written_changes.c]]) (.block (.loop ⟨24, 6, [.box (cr 1 (cr 2 .nil)), .box (cr 3 (cB (cI .nil))), .map I .str, .box (cr 4 (cr 5 (cI (cI .nil)))), .arr .str, .map I .str, .arr I], [3, 11, 12, 13], (cr 6 (.cons (.v (.sl (.st (.pair I .str)))) (cI (cI .nil))))⟩ [(.exit 0, ⟨24, 6, [.box (cr 1 (cr 2 .nil)), .box (cr 3 (cB (cI .nil))), .map I .str, .box (cr 4 (cr 5 (cI (cI .nil)))), .arr .str, .map I .str, .arr I], [3], (cr 6 .nil)⟩)]
  (.z (.seq (.cond .std .std) (.seq (.block (.z (.reg [.std, .std, .std, .inl I, .obj I]))) (.reg []))))))) (.z .std))))) (kc deal_written_changes.s kn) kn Tryz.func47

def log_Log_may : (((tS × (tL) × Int × Int) × Bool × Int) × tL) → Option (Int) := fun (l0, c1) =>
 if l0.2.1 = true then
  some 16
 else
  if decide ((c1.length : Int) > 40) = true then
   some 13
  else
   (log_Log_right (l0, c1)).bind fun r20 =>
    if (!r20) = true then
     some 1
    else
     some 0

def log_Log_may.c : Callee' := mkC 71 ⟨22, 0, [], [0, 1], (.cons (.v (.ptr (.pair (.ptr (.pair (.sl .str) (.pair (.map I .str) (.pair I I)))) (.pair .bool I)))) (.cons (.v (.sl (.st (.pair I .str)))) .nil))⟩ [⟨22, 0, [], [4], (cI .nil)⟩] log_Log_may
theorem log_Log_may.q : FunQuiet log_Log_may.c.F := mkFun_quiet rfl rfl
theorem log_Log_may.s : log_Log_may.c.ok Tryz.prog := sd 22 (.z (.seq (.block (.seq (.reg [.std, .obj .bool]) (.cond (.z .std) (.z (.cond (.z .std) (.z (.cond (.z .std) (.seq (.rq 2 log_Log_right.c) (.cond (.z .std) .std))))))))) (.z .std))) (kc log_Log_right.s kn) (kc log_Log_right.q kn) Tryz.func71

def log_Log_Commit_1 : (((Bool × Int) × (Int × Int) × tS × tL) × tL) → Option (((Bool × Int) × (Int × Int) × tS × tL) × Int) := fun (((o1b, o1c), (o2c, o2d), o3, o4), t1) =>
 (log_Log_write (((o1b, o1c), (o2c, o2d), o3, o4), t1)).bind fun (((r5, r5_2), (r5_3, r5_4), r5_5, r5_6), r5_7) =>
  some (((((r5, r5_2), (r5_3, r5_4), r5_5, r5_6), r5_7)))

def log_Log_Commit_1.c : Callee' := mkC 73 ⟨6, 0, [.box (cr 1 .nil), .box (cr 2 (cB (cI .nil))), .box (cr 3 (cr 4 (cI (cI .nil)))), .arr .str, .map I .str], [0, 1], (cr 0 (.cons (.v (.ptr (.sl (.st (.pair I .str))))) .nil))⟩ [⟨6, 5, [.box (cr 1 .nil), .box (cr 2 (cB (cI .nil))), .box (cr 3 (cr 4 (cI (cI .nil)))), .arr .str, .map I .str], [2], (cI .nil)⟩] log_Log_Commit_1
theorem log_Log_Commit_1.s : log_Log_Commit_1.c.ok Tryz.prog := sd 6 (.z (.seq (.reg [.std, .std, .call [log_Log_write.c]]) .std)) (kc log_Log_write.s kn) kn Tryz.func73

def log_numbers.l1 : (tI × (tL) × Int × Int) → Option ((tI × (tL) × Int × Int) ⊕ tI) := fun (l3, t6, t7, t8) =>
 if decide (t8 < t7) = true then
  if 0 ≤ t8 ∧ t8 < (t6.length : Int) then
   if roomOk (l3.length + (([(t6.getD t8.toNat (0, [])).1] : tI)).length) 8 then
    some (.inl ((l3 ++ (([(t6.getD t8.toNat (0, [])).1] : tI)), t6, t7, i64.wrap (t8 + 1))))
   else none
  else none
 else
  some (.inr l3)

def log_numbers : tL → Option tI := fun c0 =>
 (loopO log_numbers.l1 (([], c0, (c0.length : Int), 0))).bind fun l3 =>
  some l3

def log_numbers.c : Callee' := mkC 77 ⟨19, 0, [], [0], (.cons (.v (.sl (.st (.pair I .str)))) .nil)⟩ [⟨19, 0, [], [2], (.cons (.v (.sl I)) .nil)⟩] log_numbers
theorem log_numbers.q : FunQuiet log_numbers.c.F := mkFun_quiet rfl rfl
theorem log_numbers.s : log_numbers.c.ok Tryz.prog := sd 19 (.z (.z (.seq (.z (.block (.loop ⟨19, 0, [.arr I], [3, 6, 7, 8], (cr 0 (.cons (.v (.sl (.st (.pair I .str)))) (cI (cI .nil))))⟩ [(.exit 0, ⟨19, 0, [.arr I], [3], (cr 0 .nil)⟩)]
  (.z (.seq (.cond .std .std) (.seq (.block (.z (.reg [.std, .std, .std, .inl I, .obj I]))) (.reg []))))))) (.z .std)))) kn kn Tryz.func77

def log_Log_Commit_2 : (((Bool × Int) × (Int × Int) × tS × tL) × tL) → Option (((Bool × Int) × (Int × Int) × tS × tL) × Int) := fun (((o1b, o1c), (o2c, o2d), o3, o4), t1) =>
 (log_numbers t1).bind fun r5 =>
  (log_headOf r5).bind fun r6 =>
   (log_Log_write (((o1b, o1c), (o2c, o2d), o3, o4), r6)).bind fun (((r7, r7_2), (r7_3, r7_4), r7_5, r7_6), r7_7) =>
    some (((((r7, r7_2), (r7_3, r7_4), r7_5, r7_6), r7_7)))

def log_Log_Commit_2.c : Callee' := mkC 75 ⟨8, 0, [.box (cr 1 .nil), .box (cr 2 (cB (cI .nil))), .box (cr 3 (cr 4 (cI (cI .nil)))), .arr .str, .map I .str], [0, 1], (cr 0 (.cons (.v (.ptr (.sl (.st (.pair I .str))))) .nil))⟩ [⟨8, 5, [.box (cr 1 .nil), .box (cr 2 (cB (cI .nil))), .box (cr 3 (cr 4 (cI (cI .nil)))), .arr .str, .map I .str], [2], (cI .nil)⟩] log_Log_Commit_2
theorem log_Log_Commit_2.s : log_Log_Commit_2.c.ok Tryz.prog := sd 8 (.z (.seq (.drw [.std, .std, .callq [log_numbers.c], .callq [log_headOf.c], .call [log_Log_write.c]]) .std)) (kc log_numbers.s (kc log_headOf.s (kc log_Log_write.s kn))) (kc log_numbers.q (kc log_headOf.q kn)) Tryz.func75

def log_Log_Commit_3 : (((Bool × Int) × (Int × Int) × tS × tL) × tL) → Option (((Bool × Int) × (Int × Int) × tS × tL) × Int) := fun (((o1b, o1c), (o2c, o2d), o3, o4), t1) =>
 (log_Log_apply (((o1b, o1c), (o2c, o2d), o3, o4), t1)).bind fun (((r5, r5_2), (r5_3, r5_4), r5_5, r5_6), r5_7) =>
  some (((((r5, r5_2), (r5_3, r5_4), r5_5, r5_6), r5_7)))

def log_Log_Commit_3.c : Callee' := mkC 78 ⟨6, 0, [.box (cr 1 .nil), .box (cr 2 (cB (cI .nil))), .box (cr 3 (cr 4 (cI (cI .nil)))), .arr .str, .map I .str], [0, 1], (cr 0 (.cons (.v (.ptr (.sl (.st (.pair I .str))))) .nil))⟩ [⟨6, 5, [.box (cr 1 .nil), .box (cr 2 (cB (cI .nil))), .box (cr 3 (cr 4 (cI (cI .nil)))), .arr .str, .map I .str], [2], (cI .nil)⟩] log_Log_Commit_3
theorem log_Log_Commit_3.s : log_Log_Commit_3.c.ok Tryz.prog := sd 6 (.z (.seq (.reg [.std, .std, .call [log_Log_apply.c]]) .std)) (kc log_Log_apply.s kn) kn Tryz.func78

def log_all_1 : ((tL) × (Bool × Int) × (tL) × (Int × Int) × tS × tL) → Option (((tL) × (Bool × Int) × (tL) × (Int × Int) × tS × tL) × Int) := fun (o2, (o3b, o3c), o4, (o5c, o5d), o6, o7) =>
 (log_Log_Commit_1 (((o3b, o3c), (o5c, o5d), o6, o7), o4)).bind fun (((r13, r13_2), (r13_3, r13_4), r13_5, r13_6), r13_7) =>
  if (r13_7 != 0) = true then
   some ((((o2, (r13, r13_2), o4, (r13_3, r13_4), r13_5, r13_6), r13_7)))
  else
   (log_Log_Commit_2 (((r13, r13_2), (r13_3, r13_4), r13_5, r13_6), o2)).bind fun (((r13a, r13a_2), (r13a_3, r13a_4), r13a_5, r13a_6), r13a_7) =>
    if (r13a_7 != 0) = true then
     some ((((o2, (r13a, r13a_2), o4, (r13a_3, r13a_4), r13a_5, r13a_6), r13a_7)))
    else
     (log_Log_Commit_3 (((r13a, r13a_2), (r13a_3, r13a_4), r13a_5, r13a_6), o2)).bind fun (((r13b, r13b_2), (r13b_3, r13b_4), r13b_5, r13b_6), r13b_7) =>
      if (r13b_7 != 0) = true then
       some ((((o2, (r13b, r13b_2), o4, (r13b_3, r13b_4), r13b_5, r13b_6), r13b_7)))
      else
       some ((((o2, (r13b, r13b_2), o4, (r13b_3, r13b_4), r13b_5, r13b_6), 0)))

def log_all_1.c : Callee' := mkC 72 ⟨18, 0, [.box (cr 3 .nil), .box (cr 4 .nil), .box (.cons (.v (.sl (.st (.pair I .str)))) .nil), .box (cr 5 (cB (cI .nil))), .arr (.st (.pair I .str)), .box (cr 6 (cr 7 (cI (cI .nil)))), .arr .str, .map I .str], [0], (.cons (.fsl (.cons (.fn (.func 73) .nil (cr 0 (cr 1 .nil))) (.cons (.fn (.func 75) .nil (cr 0 (cr 2 .nil))) (.cons (.fn (.func 78) .nil (cr 0 (cr 2 .nil))) .nil)))) .nil)⟩ [⟨18, 8, [.box (cr 3 .nil), .box (cr 4 .nil), .box (.cons (.v (.sl (.st (.pair I .str)))) .nil), .box (cr 5 (cB (cI .nil))), .arr (.st (.pair I .str)), .box (cr 6 (cr 7 (cI (cI .nil)))), .arr .str, .map I .str], [2], (cI .nil)⟩] log_all_1
theorem log_all_1.s : log_all_1.c.ok Tryz.prog := sd 18 (.z (.seq (.z (.block (.unroll (.z (.seq (.cond .std .std) (.seq (.block (.z (.seq (.reg [.std, .call [log_Log_Commit_1.c, log_Log_Commit_2.c, log_Log_Commit_3.c]]) (.z (.cond (.z .std) .std))))) (.reg [])))) (.unroll (.z (.seq (.cond .std .std) (.seq (.block (.z (.seq (.reg [.std, .call [log_Log_Commit_1.c, log_Log_Commit_2.c, log_Log_Commit_3.c]]) (.z (.cond (.z .std) .std))))) (.reg [])))) (.unroll (.z (.seq (.cond .std .std) (.seq (.block (.z (.seq (.reg [.std, .call [log_Log_Commit_1.c, log_Log_Commit_2.c, log_Log_Commit_3.c]]) (.z (.cond (.z .std) .std))))) (.reg [])))) (.unroll (.z (.seq (.cond .std .std) (.seq (.block (.z (.seq (.reg [.std, .call [log_Log_Commit_1.c, log_Log_Commit_2.c, log_Log_Commit_3.c]]) (.z (.cond (.z .std) .std))))) (.reg [])))) .std)))))) (.z .std))) (kc log_Log_Commit_1.s (kc log_Log_Commit_2.s (kc log_Log_Commit_3.s (kc log_Log_Commit_1.s (kc log_Log_Commit_2.s (kc log_Log_Commit_3.s (kc log_Log_Commit_1.s (kc log_Log_Commit_2.s (kc log_Log_Commit_3.s (kc log_Log_Commit_1.s (kc log_Log_Commit_2.s (kc log_Log_Commit_3.s kn)))))))))))) kn Tryz.func72

def log_Log_Commit.l1 : (((Bool × Int) × (Int × Int) × tS × (tL) × (tL) × tL) × (tL) × Int × Int) → Option ((((Bool × Int) × (Int × Int) × tS × (tL) × (tL) × tL) × (tL) × Int × Int) ⊕ ((Bool × Int) × (Int × Int) × tS × (tL) × (tL) × tL)) := fun (((o0b, o0c), (o1c, o1d), o2, o3, c3, o7), t21, t22, t23) =>
 if decide (t23 < t22) = true then
  if 0 ≤ t23 ∧ t23 < (t21.length : Int) then
   if roomOk (o7.length + (([(i64.wrap (2 + t23), (t21.getD t23.toNat (0, [])).2)] : tL)).length) 24 then
    some (.inl ((((o0b, o0c), (o1c, o1d), o2, o3, c3, o7 ++ (([(i64.wrap (2 + t23), (t21.getD t23.toNat (0, [])).2)] : tL))), t21, t22, i64.wrap (t23 + 1))))
   else none
  else none
 else
  some (.inr ((((o0b, o0c), (o1c, o1d), o2, o3, c3, o7))))

def log_Log_Commit : (((Bool × Int) × (Int × Int) × tS × tL) × tL) → Option (((Bool × Int) × (Int × Int) × tS × tL) × Int) := fun (((l0b, l0c), (o1c, o1d), o2, o3), c1) =>
 (log_Log_may (((o2, o3, o1c, o1d), l0b, l0c), c1)).bind fun r12 =>
  if (r12 != 0) = false then
   if ((c1.length : Int) == 0) = true then
    some (((((l0b, l0c), (o1c, o1d), o2, o3), r12)))
   else
    (loopO log_Log_Commit.l1 ((((l0b, l0c), (o1c, o1d), o2, o3, c1, []), c1, (c1.length : Int), 0))).bind fun ((o0b, o0c), (o1c, o1d), o2, o3, c3, o7) =>
     (log_all_1 (c3, (o0b, o0c), o7, (o1c, o1d), o2, o3)).bind fun ((r41, (r41_2, r41_3), r41_4, (r41_5, r41_6), r41_7, r41_8), r41_9) =>
      if (r41_9 != 0) = true then
       some (((((true, r41_3), (r41_5, r41_6), r41_7, r41_8), r41_9)))
      else
       some (((((r41_2, i64.wrap (r41_3 + 1)), (r41_5, r41_6), r41_7, r41_8), 0)))
  else
   some (((((l0b, l0c), (o1c, o1d), o2, o3), r12)))

def log_Log_Commit.c : Callee' := mkC 18 ⟨55, 0, [.box (cr 1 (cB (cI .nil))), .box (cr 2 (cr 3 (cI (cI .nil)))), .arr .str, .map I .str], [0, 1], (cr 0 (.cons (.v (.sl (.st (.pair I .str)))) .nil))⟩ [⟨55, 4, [.box (cr 1 (cB (cI .nil))), .box (cr 2 (cr 3 (cI (cI .nil)))), .arr .str, .map I .str], [4], (cI .nil)⟩] log_Log_Commit
theorem log_Log_Commit.s : log_Log_Commit.c.ok Tryz.prog := sd 55 (.z (.seq (.seq (.rq 2 log_Log_may.c) (.z (.cond (.z .std) .std))) (.z (.seq (.z (.block (.loop ⟨55, 4, [.box (cr 1 (cB (cI .nil))), .box (cr 2 (cr 3 (cI (cI .nil)))), .arr .str, .map I .str, .box (cr 0 .nil), .box (.cons (.v (.sl (.st (.pair I .str)))) .nil), .box (cr 7 .nil), .arr (.st (.pair I .str))], [2, 3, 6, 21, 22, 23], (cr 4 (cr 5 (cr 6 (.cons (.v (.sl (.st (.pair I .str)))) (cI (cI .nil))))))⟩ [(.exit 0, ⟨55, 4, [.box (cr 1 (cB (cI .nil))), .box (cr 2 (cr 3 (cI (cI .nil)))), .arr .str, .map I .str, .box (cr 0 .nil), .box (.cons (.v (.sl (.st (.pair I .str)))) .nil), .box (cr 7 .nil), .arr (.st (.pair I .str))], [2, 3, 6], (cr 4 (cr 5 (cr 6 .nil)))⟩)]
  (.z (.seq (.cond .std .std) (.seq (.block (.z (.reg [.std, .std, .std, .std, .std, .std, .inl (.st (.pair I .str)), .obj (.st (.pair I .str))]))) (.reg []))))))) (.seq (.reg [.std, .std, .std, .std, .call [log_all_1.c]]) (.seq (.z (.cond (.z (.z .std)) .std)) (.z (.z .std)))))))) (kc log_Log_may.s (kc log_all_1.s kn)) (kc log_Log_may.q kn) Tryz.func18

def deal_Deal_Undo : ((Bool × Int) × (tL) × (Int × Int) × tS × tL) → Option ((Bool × Int) × (tL) × (Int × Int) × tS × tL) := fun ((o1b, o1c), o2, (o3c, o3d), o4, o5) =>
 some ((((o1b, o1c), ([] : tL), (o3c, o3d), o4, o5)))

def deal_Deal_Undo.c : Callee' := mkC 52 ⟨9, 0, [.box (cr 1 (cr 2 .nil)), .box (cr 3 (cB (cI .nil))), .map I .str, .box (cr 4 (cr 5 (cI (cI .nil)))), .arr .str, .map I .str], [0], (cr 0 .nil)⟩ [⟨9, 6, [.box (cr 1 (cr 2 .nil)), .box (cr 3 (cB (cI .nil))), .map I .str, .box (cr 4 (cr 5 (cI (cI .nil)))), .arr .str, .map I .str], [], .nil⟩] deal_Deal_Undo
theorem deal_Deal_Undo.s : deal_Deal_Undo.c.ok Tryz.prog := sd 9 (.seq (.reg [.std, .obj .bool]) (.cond (.reg []) .std)) kn kn Tryz.func52

def deal_Deal_Commit : ((Bool × Int) × (tL) × (Int × Int) × tS × tL) → Option (((Bool × Int) × (tL) × (Int × Int) × tS × tL) × Int) := fun ((o1b, o1c), o2, (o3c, o3d), o4, o5) =>
 (deal_written_changes ((o1b, o1c), o2, (o3c, o3d), o4, o5)).bind fun (((r14, r14_2), r14_3, (r14_4, r14_5), r14_6, r14_7), r14_8) =>
  (log_Log_Commit (((r14, r14_2), (r14_4, r14_5), r14_6, r14_7), r14_8)).bind fun (((r15, r15_2), (r15_3, r15_4), r15_5, r15_6), r15_7) =>
   if (r15_7 != 13) = true then
    (deal_Deal_Undo ((r15, r15_2), r14_3, (r15_3, r15_4), r15_5, r15_6)).bind fun ((r19, r19_2), r19_3, (r19_4, r19_5), r19_6, r19_7) =>
     some (((((r19, r19_2), r19_3, (r19_4, r19_5), r19_6, r19_7), r15_7)))
   else
    some (((((r15, r15_2), r14_3, (r15_3, r15_4), r15_5, r15_6), r15_7)))

def deal_Deal_Commit.c : Callee' := mkC 56 ⟨21, 0, [.box (cr 1 (cr 2 .nil)), .box (cr 3 (cB (cI .nil))), .map I .str, .box (cr 4 (cr 5 (cI (cI .nil)))), .arr .str, .map I .str], [0], (cr 0 .nil)⟩ [⟨21, 6, [.box (cr 1 (cr 2 .nil)), .box (cr 3 (cB (cI .nil))), .map I .str, .box (cr 4 (cr 5 (cI (cI .nil)))), .arr .str, .map I .str], [2], (cI .nil)⟩] deal_Deal_Commit
theorem deal_Deal_Commit.s : deal_Deal_Commit.c.ok Tryz.prog := sd 21 (.z (.seq (.seq (.reg [.std, .obj .bool]) (.cond (.z .std) .std)) (.seq (.drw [.std, .std, .std, .std, .std, .std, .std, .std, .call [deal_written_changes.c], .call [log_Log_Commit.c]]) (.seq (.z (.cond (.reg [.std, .call [deal_Deal_Undo.c]]) .std)) (.z .std))))) (kc deal_written_changes.s (kc log_Log_Commit.s (kc deal_Deal_Undo.s kn))) kn Tryz.func56

def lw12_lives : Unit → Option (Bool) := fun _ =>
 (lw12_begin 64).bind fun d => match d with
 | .inl ((r6, r6_2), r6_3, r6_4) =>
  some false
 | .inr (((r6b, r6_2b), r6_3b, r6_4b, (r6_5b, r6_6b), r6_7b)) =>
  (deal_Deal_Write (((r6_5b, r6_6b), r6_7b, (r6b, r6_2b), r6_3b, r6_4b), 60, ([97] : tB))).bind fun (((r13, r13_2), r13_3, (r13_4, r13_5), r13_6, r13_7), r13_8) =>
   if (r13_8 != 0) = true then
    some false
   else
    (deal_Deal_Read ((((r13_6, r13_7, r13_4, r13_5), r13, r13_2), r13_3), 60)).bind fun (r18, r18_2) =>
     if (r18_2 == 0) = true then
      (rf02_Whole ([97] : tB)).bind fun r25 =>
       if (r18 == r25) = true then
        (deal_Deal_Changed ((r13, r13_2), r13_3, (r13_4, r13_5), r13_6, r13_7)).bind fun (((r30, r30_2), r30_3, (r30_4, r30_5), r30_6, r30_7), r30_8) =>
         if ((r30_8.length : Int) == 1) = true then
          (deal_Deal_Commit ((r30, r30_2), r30_3, (r30_4, r30_5), r30_6, r30_7)).bind fun (((r36, r36_2), r36_3, (r36_4, r36_5), r36_6, r36_7), r36_8) =>
           if (r36_8 == 0) = true then
            (slab_Slab_Read ((r36_6, r36_7, r36_4, r36_5), 60)).bind fun r41 =>
             if (r41 == r18) = true then
              (deal_Deal_Changed ((r36, r36_2), r36_3, (r36_4, r36_5), r36_6, r36_7)).bind fun (((r47, r47_2), r47_3, (r47_4, r47_5), r47_6, r47_7), r47_8) =>
               some ((((r47_8.length : Int) == 0)))
             else
              some false
           else
            some false
         else
          some false
       else
        some false
     else
      some false

def lw12_lives.c : Callee' := mkC 48 ⟨51, 0, [], [], .nil⟩ [⟨51, 0, [], [0], (cB .nil)⟩] lw12_lives
theorem lw12_lives.q : FunQuiet lw12_lives.c.F := mkFun_quiet rfl rfl
def lw12_lives.ann : Ann := (.z (.seq (.reg [.call [lw12_begin.c]]) (.seq (.seq (.reg [.std, .obj .bool, .std, .std, .call [deal_Deal_Write.c]]) (.cond (.z .std) .std)) (.seq (.reg [.std, .callq [deal_Deal_Read.c]]) (.seq (.reg [.std, .std, .std, .std, .callq [rf02_Whole.c], .std, .std, .std, .std, .call [deal_Deal_Changed.c], .std, .std, .std, .std, .std, .call [deal_Deal_Commit.c], .std, .std, .std, .std, .callq [slab_Slab_Read.c], .std, .std, .std, .std, .std, .call [deal_Deal_Changed.c]]) .std)))))
theorem lw12_lives.s : lw12_lives.c.ok Tryz.prog := sd 51 lw12_lives.ann (kc lw12_begin.s (kc deal_Deal_Write.s (kc deal_Deal_Read.s (kc rf02_Whole.s (kc deal_Deal_Changed.s (kc deal_Deal_Commit.s (kc slab_Slab_Read.s (kc deal_Deal_Changed.s kn)))))))) (kc deal_Deal_Read.q (kc rf02_Whole.q (kc slab_Slab_Read.q kn))) Tryz.func48

def lw12_early : (List (Int × Int × tB × (Int × Int × Int) × tC)) → Option (List (Int × Int × tB × (Int × Int × Int) × tC)) := fun l0 =>
 if 0 ≤ (if 150 < (l0.length : Int) then 150 else (l0.length : Int)) ∧ (if 150 < (l0.length : Int) then 150 else (l0.length : Int)) ≤ (l0.length : Int) then
  some ((l0.take ((if 150 < (l0.length : Int) then 150 else (l0.length : Int))).toNat))
 else none

def lw12_early.c : Callee' := mkC 57 ⟨8, 0, [], [0], (.cons (.v (.sl (.st (.pair I (.pair I (.pair .str (.pair (.st (.pair I (.pair I I))) (yC)))))))) .nil)⟩ [⟨8, 0, [], [2], (.cons (.v (.sl (.st (.pair I (.pair I (.pair .str (.pair (.st (.pair I (.pair I I))) (yC)))))))) .nil)⟩] lw12_early
theorem lw12_early.q : FunQuiet lw12_early.c.F := mkFun_quiet rfl rfl
theorem lw12_early.s : lw12_early.c.ok Tryz.prog := sd 8 (.z (.z .std)) kn kn Tryz.func57

def rf12_Begin : tS → Option (tS × tS) := fun image0 =>
 if roomOk ((([] : tS)).length + image0.length) 16 then
  if roomOk ((([] : tS)).length + image0.length) 16 then
   some ((((([] : tS)) ++ image0, (([] : tS)) ++ image0)))
  else none
 else none

def rf12_Begin.c : Callee' := mkC 59 ⟨9, 0, [], [0], (.cons (.v (.sl .str)) .nil)⟩ [⟨9, 0, [.box (cr 1 (cr 2 .nil)), .arr .str, .arr .str], [2], (cr 0 .nil)⟩] rf12_Begin
theorem rf12_Begin.s : rf12_Begin.c.ok Tryz.prog := sd 9 (.z (.seq (.reg [.std, .obj .str, .std, .obj .str]) .std)) kn kn Tryz.func59

def lw12_Op_kind : (Int × Int × tB × (Int × Int × Int) × tC) → Option (Int) := fun ov0 =>
 some ((i64.wrap (Int.tmod (u64.wrap (ov0.1)) 7)))

def lw12_Op_kind.c : Callee' := mkC 65 ⟨8, 0, [], [0], (.cons (.v (.st (.pair I (.pair I (.pair .str (.pair (.st (.pair I (.pair I I))) (yC))))))) .nil)⟩ [⟨8, 0, [], [2], (cI .nil)⟩] lw12_Op_kind
theorem lw12_Op_kind.q : FunQuiet lw12_Op_kind.c.F := mkFun_quiet rfl rfl
theorem lw12_Op_kind.s : lw12_Op_kind.c.ok Tryz.prog := sd 8 (.z (.z .std)) kn kn Tryz.func65

def rf12_Deal_there : ((tS × tS) × Int) → Option (Bool) := fun (d0, i1) =>
 if decide (i1 ≥ 0) = true then
  if decide (i1 < (d0.2.length : Int)) = true then
   if decide (i1 < 1) = false then
    some ((decide (i1 > 41)))
   else
    some true
  else
   some false
 else
  some false

def rf12_Deal_there.c : Callee' := mkC 139 ⟨24, 0, [], [0, 1], (.cons (.v (.ptr (.pair (.sl .str) (.sl .str)))) (cI .nil))⟩ [⟨24, 0, [], [4], (cB .nil)⟩] rf12_Deal_there
theorem rf12_Deal_there.q : FunQuiet rf12_Deal_there.c.F := mkFun_quiet rfl rfl
theorem rf12_Deal_there.s : rf12_Deal_there.c.ok Tryz.prog := sd 24 (.z (.z .std)) kn kn Tryz.func139

def rf12_Deal_Read : ((tS × tS) × Int) → Option (tB × Int) := fun (d0, i1) =>
 (rf12_Deal_there (d0, i1)).bind fun r8 =>
  if (!r8) = true then
   some ((([], 1)))
  else
   if 0 ≤ i1 ∧ i1 < (d0.2.length : Int) then
    some (((d0.2.getD i1.toNat [], 0)))
   else none

def rf12_Deal_Read.c : Callee' := mkC 113 ⟨17, 0, [], [0, 1], (.cons (.v (.ptr (.pair (.sl .str) (.sl .str)))) (cI .nil))⟩ [⟨17, 0, [], [4, 5], (cS (cI .nil))⟩] rf12_Deal_Read
theorem rf12_Deal_Read.q : FunQuiet rf12_Deal_Read.c.F := mkFun_quiet rfl rfl
theorem rf12_Deal_Read.s : rf12_Deal_Read.c.ok Tryz.prog := sd 17 (.z (.seq (.seq (.rq 2 rf12_Deal_there.c) (.cond (.z .std) .std)) (.z .std))) (kc rf12_Deal_there.s kn) (kc rf12_Deal_there.q kn) Tryz.func113

def rf12_Deal_Write : ((tS × tS) × Int × tB) → Option ((tS × tS) × Int) := fun ((o1, o2), i1, data2) =>
 (rf12_Deal_there ((o1, o2), i1)).bind fun r9 =>
  if (!r9) = false then
   if decide ((data2.length : Int) > 128) = true then
    some ((((o1, o2), 1)))
   else
    (rf02_Whole data2).bind fun r22 =>
     if 0 ≤ i1 ∧ i1 < (o2.length : Int) then
      some ((((o1, o2.set i1.toNat r22), 0)))
     else none
  else
   some ((((o1, o2), 1)))

def rf12_Deal_Write.c : Callee' := mkC 88 ⟨24, 0, [.box (cr 1 (cr 2 .nil)), .arr .str, .arr .str], [0, 1, 2], (cr 0 (cI (cS .nil)))⟩ [⟨24, 3, [.box (cr 1 (cr 2 .nil)), .arr .str, .arr .str], [6], (cI .nil)⟩] rf12_Deal_Write
theorem rf12_Deal_Write.s : rf12_Deal_Write.c.ok Tryz.prog := sd 24 (.z (.seq (.seq (.rq 2 rf12_Deal_there.c) (.cond (.z .std) .std)) (.seq (.drw [.std, .std, .std, .std, .std, .std, .callq [rf02_Whole.c]]) (.z .std)))) (kc rf12_Deal_there.s (kc rf02_Whole.s kn)) (kc rf12_Deal_there.q (kc rf02_Whole.q kn)) Tryz.func88

def crown_Right : (Int × Int × Int) → Option (Bool) := fun c0 =>
 if decide (c0.2.1 < 64) = false then
  if decide (c0.2.1 > 400) = true then
   some false
  else
   ((
    if (c0.1 == 1) = true then
     some (((c0, c0.1, true)))
    else
     some (((c0, c0.1, (c0.1 == 2))))) : Option ((Int × Int × Int) × Int × Bool)).bind fun ((c1a, c1b, c1c), t12, t13) =>
    if t13 = true then
     some (((c1c == 0)))
    else
     ((
      if (t12 == 3) = true then
       some ((((c1a, c1b, c1c), true)))
      else
       some ((((c1a, c1b, c1c), (t12 == 4))))) : Option ((Int × Int × Int) × Bool)).bind fun ((c1a, c1b, c1c), t19) =>
      if t19 = true then
       if decide (c1c ≥ 0) = true then
        some ((decide (c1c ≤ 32)))
       else
        some false
      else
       some false
 else
  some false

def crown_Right.c : Callee' := mkC 142 ⟨30, 0, [], [0], (.cons (.v (.st (.pair I (.pair I I)))) .nil)⟩ [⟨30, 0, [], [2], (cB .nil)⟩] crown_Right
theorem crown_Right.q : FunQuiet crown_Right.c.F := mkFun_quiet rfl rfl
theorem crown_Right.s : crown_Right.c.ok Tryz.prog := sd 30 (.z (.seq (.z (.cond (.z .std) .std)) (.seq (.z (.block (.join [(.norm, ⟨30, 0, [.box (cI (cI (cI .nil)))], [1, 12, 13], (cr 0 (cI (cB .nil)))⟩)]
  (.z (.cond .std (.reg []))) (.cond (.z .std) (.join [(.norm, ⟨30, 0, [.box (cI (cI (cI .nil)))], [1, 19], (cr 0 (cB .nil))⟩)]
  (.z (.cond .std (.reg []))) (.cond (.z .std) .std)))))) (.z .std)))) kn kn Tryz.func142

def crown_widths : Unit → Option tI := fun _ =>
 some ((([1, 2, 1] : tI)))

def crown_widths.c : Callee' := mkC 150 ⟨2, 0, [], [], .nil⟩ [⟨2, 0, [], [0], (.cons (.v (.sl I)) .nil)⟩] crown_widths
theorem crown_widths.q : FunQuiet crown_widths.c.F := mkFun_quiet rfl rfl
theorem crown_widths.s : crown_widths.c.ok Tryz.prog := sd 2 (.z (.seq (.reg [.inl I]) .std)) kn kn Tryz.func150

def crown_Write : (Int × Int × Int) → Option (tB × Int) := fun c0 =>
 (crown_Right c0).bind fun r7 =>
  if (!r7) = true then
   some ((([], 1)))
  else
   (crown_widths ()).bind fun r10 =>
    (mould_Write (r10, ([c0.1, c0.2.1, c0.2.2] : tI))).bind fun (r18, r18_2) =>
     if (r18_2 != 0) = true then
      some ((([], r18_2)))
     else
      if (([119, 97, 105, 110, 119, 114, 105, 103, 104, 116] : tB)).length + r18.length ≤ 9223372036854775807 then
       (mould_Pad ((([119, 97, 105, 110, 119, 114, 105, 103, 104, 116] : tB)) ++ r18, 128)).bind fun (r26, r26_2) =>
        some (((r26, r26_2)))
      else none

def crown_Write.c : Callee' := mkC 110 ⟨29, 0, [], [0], (.cons (.v (.st (.pair I (.pair I I)))) .nil)⟩ [⟨29, 0, [], [2, 3], (cS (cI .nil))⟩] crown_Write
theorem crown_Write.q : FunQuiet crown_Write.c.F := mkFun_quiet rfl rfl
theorem crown_Write.s : crown_Write.c.ok Tryz.prog := sd 29 (.z (.seq (.seq (.reg [.std, .callq [crown_Right.c]]) (.cond (.z .std) .std)) (.seq (.drw [.callq [crown_widths.c], .std, .std, .std, .std, .std, .std, .inl I, .callq [mould_Write.c]]) (.seq (.z (.cond (.z .std) .std)) (.seq (.rq 2 mould_Pad.c) .std))))) (kc crown_Right.s (kc crown_widths.s (kc mould_Write.s (kc mould_Pad.s kn)))) (kc crown_Right.q (kc crown_widths.q (kc mould_Write.q (kc mould_Pad.q kn)))) Tryz.func110

def deal_Deal_SetCrown : (((Bool × Int) × (tL) × (Int × Int) × tS × tL) × Int × Int × Int) → Option (((Bool × Int) × (tL) × (Int × Int) × tS × tL) × Int) := fun (((o1b, o1c), o2, (o3c, o3d), o4, o5), c1) =>
 (log_Log_Size ((o4, o5, o3c, o3d), o1b, o1c)).bind fun r17 =>
  if decide (c1.2.1 > r17) = true then
   some (((((o1b, o1c), o2, (o3c, o3d), o4, o5), 1)))
  else
   (crown_Write c1).bind fun (r22, r22_2) =>
    if (r22_2 != 0) = true then
     some (((((o1b, o1c), o2, (o3c, o3d), o4, o5), r22_2)))
    else
     (deal_Deal_Write (((o1b, o1c), o2, (o3c, o3d), o4, o5), 0, r22)).bind fun (((r30, r30_2), r30_3, (r30_4, r30_5), r30_6, r30_7), r30_8) =>
      some (((((r30, r30_2), r30_3, (r30_4, r30_5), r30_6, r30_7), r30_8)))

def deal_Deal_SetCrown.c : Callee' := mkC 54 ⟨31, 0, [.box (cr 1 (cr 2 .nil)), .box (cr 3 (cB (cI .nil))), .map I .str, .box (cr 4 (cr 5 (cI (cI .nil)))), .arr .str, .map I .str], [0, 1], (cr 0 (.cons (.v (.st (.pair I (.pair I I)))) .nil))⟩ [⟨31, 6, [.box (cr 1 (cr 2 .nil)), .box (cr 3 (cB (cI .nil))), .map I .str, .box (cr 4 (cr 5 (cI (cI .nil)))), .arr .str, .map I .str], [4], (cI .nil)⟩] deal_Deal_SetCrown
theorem deal_Deal_SetCrown.s : deal_Deal_SetCrown.c.ok Tryz.prog := sd 31 (.z (.seq (.seq (.drw [.std, .inl .bool, .std, .std, .std, .std, .std, .std, .std, .std, .callq [log_Log_Size.c]]) (.cond (.z .std) .std)) (.seq (.reg [.std, .callq [crown_Write.c]]) (.seq (.z (.cond (.z .std) .std)) (.seq (.reg [.std, .std, .call [deal_Deal_Write.c]]) .std))))) (kc log_Log_Size.s (kc crown_Write.s (kc deal_Deal_Write.s kn))) (kc log_Log_Size.q (kc crown_Write.q kn)) Tryz.func54

def rf10_Right : (Int × Int × Int) → Option (Bool) := fun c0 =>
 if decide (c0.2.1 < 64) = false then
  if decide (c0.2.1 > 400) = true then
   some false
  else
   if (c0.1 == 1) = false then
    if (c0.1 == 2) = true then
     some (((c0.2.2 == 0)))
    else
     if (c0.1 == 3) = false then
      if (c0.1 == 4) = true then
       if decide (c0.2.2 ≥ 0) = true then
        some ((decide (c0.2.2 ≤ 32)))
       else
        some false
      else
       some false
     else
      if decide (c0.2.2 ≥ 0) = true then
       some ((decide (c0.2.2 ≤ 32)))
      else
       some false
   else
    some (((c0.2.2 == 0)))
 else
  some false

def rf10_Right.c : Callee' := mkC 179 ⟨40, 0, [], [0], (.cons (.v (.st (.pair I (.pair I I)))) .nil)⟩ [⟨40, 0, [], [2], (cB .nil)⟩] rf10_Right
theorem rf10_Right.q : FunQuiet rf10_Right.c.F := mkFun_quiet rfl rfl
theorem rf10_Right.s : rf10_Right.c.ok Tryz.prog := sd 40 (.z (.seq (.z (.cond (.z .std) .std)) (.seq (.z (.cond (.z .std) .std)) (.z .std)))) kn kn Tryz.func179

def rf01_Size.l1 : (tI × Int × Int) → Option ((tI × Int × Int) ⊕ (Int ⊕ Int)) := fun (widths0, n3, i4) =>
 if decide (i4 < (widths0.length : Int)) = true then
  if 0 ≤ i4 ∧ i4 < (widths0.length : Int) then
   if (widths0.getD i4.toNat 0 != 1) = true then
    if 0 ≤ i4 ∧ i4 < (widths0.length : Int) then
     if (widths0.getD i4.toNat 0 != 2) = true then
      if 0 ≤ i4 ∧ i4 < (widths0.length : Int) then
       if (widths0.getD i4.toNat 0 != 4) = true then
        some (.inr (.inr (-1)))
       else
        if 0 ≤ i4 ∧ i4 < (widths0.length : Int) then
         some (.inl ((widths0, i64.wrap (n3 + (widths0.getD i4.toNat 0)), i64.wrap (i4 + 1))))
        else none
      else none
     else
      if 0 ≤ i4 ∧ i4 < (widths0.length : Int) then
       some (.inl ((widths0, i64.wrap (n3 + (widths0.getD i4.toNat 0)), i64.wrap (i4 + 1))))
      else none
    else none
   else
    if 0 ≤ i4 ∧ i4 < (widths0.length : Int) then
     some (.inl ((widths0, i64.wrap (n3 + (widths0.getD i4.toNat 0)), i64.wrap (i4 + 1))))
    else none
  else none
 else
  some (.inr (.inl n3))

def rf01_Size : tI → Option (Int) := fun widths0 =>
 (loopO rf01_Size.l1 ((widths0, 0, 0))).bind fun d => match d with
 | .inl n3 =>
  some n3
 | .inr t2 =>
  some t2

def rf01_Size.c : Callee' := mkC 178 ⟨37, 0, [], [0], (.cons (.v (.sl I)) .nil)⟩ [⟨37, 0, [], [2], (cI .nil)⟩] rf01_Size
theorem rf01_Size.q : FunQuiet rf01_Size.c.F := mkFun_quiet rfl rfl
theorem rf01_Size.s : rf01_Size.c.ok Tryz.prog := sd 37 (.z (.z (.seq (.z (.block (.loop ⟨37, 0, [], [0, 3, 4], (.cons (.v (.sl I)) (cI (cI .nil)))⟩ [(.exit 0, ⟨37, 0, [], [3], (cI .nil)⟩), (.ret, ⟨37, 0, [], [2], (cI .nil)⟩)]
  (.seq (.z (.cond .std .std)) (.seq (.block (.seq (.z (.cond (.z .std) .std)) (.reg []))) (.reg [])))))) (.z .std)))) kn kn Tryz.func178

def rf01_most : Int → Option (Int) := fun width0 =>
 if (width0 == 1) = true then
  some 255
 else
  if (width0 == 2) = true then
   some 65535
  else
   some 4294967295

def rf01_most.c : Callee' := mkC 213 ⟨7, 0, [], [0], (cI .nil)⟩ [⟨7, 0, [], [2], (cI .nil)⟩] rf01_most
theorem rf01_most.q : FunQuiet rf01_most.c.F := mkFun_quiet rfl rfl
theorem rf01_most.s : rf01_most.c.ok Tryz.prog := sd 7 (.z (.seq (.z (.cond (.z .std) .std)) (.seq (.z (.cond (.z .std) .std)) (.z .std)))) kn kn Tryz.func213

def rf01_Write.l2 : (tI × tI × tI × Int × Int × Int) → Option ((tI × tI × tI × Int × Int × Int) ⊕ (tI × tI × tI × Int)) := fun (out6, widths0, values1, i7, v8, k9) =>
 if 0 ≤ i7 ∧ i7 < (widths0.length : Int) then
  if decide (k9 < widths0.getD i7.toNat 0) = true then
   if roomOk (out6.length + (([u8.wrap (Int.tmod v8 256)] : tI)).length) 1 then
    some (.inl ((out6 ++ (([u8.wrap (Int.tmod v8 256)] : tI)), widths0, values1, i7, i64.wrap (Int.tdiv v8 256), i64.wrap (k9 + 1))))
   else none
  else
   some (.inr (((out6, widths0, values1, i7))))
 else none

def rf01_Write.l1 : (tI × tI × tI × Int) → Option ((tI × tI × tI × Int) ⊕ (tI ⊕ (tB × Int))) := fun (out6, widths0, values1, i7) =>
 if decide (i7 < (widths0.length : Int)) = true then
  if 0 ≤ i7 ∧ i7 < (values1.length : Int) then
   if decide (values1.getD i7.toNat 0 < 0) = false then
    if 0 ≤ i7 ∧ i7 < (values1.length : Int) then
     if 0 ≤ i7 ∧ i7 < (widths0.length : Int) then
      (rf01_most (widths0.getD i7.toNat 0)).bind fun r40 =>
       if decide (values1.getD i7.toNat 0 > r40) = true then
        some (.inr (.inr ((([], 3)))))
       else
        if 0 ≤ i7 ∧ i7 < (values1.length : Int) then
         (loopO rf01_Write.l2 ((out6, widths0, values1, i7, values1.getD i7.toNat 0, 0))).bind fun (out6, widths0, values1, i7) =>
          some (.inl ((out6, widths0, values1, i64.wrap (i7 + 1))))
        else none
     else none
    else none
   else
    some (.inr (.inr ((([], 3)))))
  else none
 else
  some (.inr (.inl out6))

def rf01_Write : (tI × tI) → Option (tB × Int) := fun (widths0, values1) =>
 (rf01_Size widths0).bind fun r11 =>
  if decide (r11 < 0) = false then
   if ((widths0.length : Int) != (values1.length : Int)) = true then
    some ((([], 1)))
   else
    (loopO rf01_Write.l1 (([], widths0, values1, 0))).bind fun d => match d with
    | .inl out6 =>
     some (((out6.map fun (n : Int) => UInt8.ofNat n.toNat, 0)))
    | .inr ((t4, t5)) =>
     some (((t4, t5)))
  else
   some ((([], 1)))

def rf01_Write.c : Callee' := mkC 180 ⟨65, 0, [], [0, 1], (.cons (.v (.sl I)) (.cons (.v (.sl I)) .nil))⟩ [⟨65, 0, [], [4, 5], (cS (cI .nil))⟩] rf01_Write
theorem rf01_Write.q : FunQuiet rf01_Write.c.F := mkFun_quiet rfl rfl
theorem rf01_Write.s : rf01_Write.c.ok Tryz.prog := sd 65 (.z (.seq (.seq (.reg [.std, .callq [rf01_Size.c]]) (.cond (.z .std) .std)) (.z (.seq (.z (.block (.loop ⟨65, 0, [.arr (.int .u8)], [0, 1, 6, 7], (.cons (.v (.sl I)) (.cons (.v (.sl I)) (cr 0 (cI .nil))))⟩ [(.exit 0, ⟨65, 0, [.arr (.int .u8)], [6], (cr 0 .nil)⟩), (.ret, ⟨65, 0, [], [4, 5], (cS (cI .nil))⟩)]
  (.seq (.z (.cond .std .std)) (.seq (.block (.seq (.seq (.drw [.std, .std, .std, .std, .std, .std, .std, .std, .std, .std, .std, .std, .std, .std, .callq [rf01_most.c]]) (.cond (.z .std) .std)) (.z (.z (.block (.loop ⟨65, 0, [.arr (.int .u8)], [0, 1, 6, 7, 8, 9], (.cons (.v (.sl I)) (.cons (.v (.sl I)) (cr 0 (cI (cI (cI .nil))))))⟩ [(.exit 2, ⟨65, 0, [.arr (.int .u8)], [0, 1, 6, 7], (.cons (.v (.sl I)) (.cons (.v (.sl I)) (cr 0 (cI .nil))))⟩)]
  (.seq (.z (.cond .std .std)) (.seq (.block (.seq (.reg [.std, .std, .std, .std, .inl (.int .u8), .obj (.int .u8)]) (.reg []))) (.reg []))))))))) (.reg [])))))) (.z .std))))) (kc rf01_Size.s (kc rf01_most.s kn)) (kc rf01_Size.q (kc rf01_most.q kn)) Tryz.func180

def rf10_Write : (Int × Int × Int) → Option (tB × Int) := fun c0 =>
 (rf10_Right c0).bind fun r7 =>
  if (!r7) = true then
   some ((([], 1)))
  else
   (rf01_Write (([1, 2, 1] : tI), ([c0.1, c0.2.1, c0.2.2] : tI))).bind fun (r18, r18_2) =>
    if (([119, 97, 105, 110, 119, 114, 105, 103, 104, 116] : tB)).length + r18.length ≤ 9223372036854775807 then
     (rf02_Whole ((([119, 97, 105, 110, 119, 114, 105, 103, 104, 116] : tB)) ++ r18)).bind fun r23 =>
      some (((r23, 0)))
    else none

def rf10_Write.c : Callee' := mkC 138 ⟨24, 0, [], [0], (.cons (.v (.st (.pair I (.pair I I)))) .nil)⟩ [⟨24, 0, [], [2, 3], (cS (cI .nil))⟩] rf10_Write
theorem rf10_Write.q : FunQuiet rf10_Write.c.F := mkFun_quiet rfl rfl
theorem rf10_Write.s : rf10_Write.c.ok Tryz.prog := sd 24 (.z (.seq (.seq (.reg [.std, .callq [rf10_Right.c]]) (.cond (.z .std) .std)) (.seq (.reg [.inl I, .std, .std, .std, .std, .std, .std, .inl I, .callq [rf01_Write.c]]) (.seq (.rq 2 rf02_Whole.c) .std)))) (kc rf10_Right.s (kc rf01_Write.s (kc rf02_Whole.s kn))) (kc rf10_Right.q (kc rf01_Write.q (kc rf02_Whole.q kn))) Tryz.func138

def rf12_Deal_SetCrown : ((tS × tS) × Int × Int × Int) → Option ((tS × tS) × Int) := fun ((o1, o2), c1) =>
 (rf10_Write c1).bind fun (r9, r9_2) =>
  if (r9_2 != 0) = false then
   if decide (c1.2.1 > (o2.length : Int)) = true then
    some ((((o1, o2), 1)))
   else
    if 0 ≤ (0 : Int) ∧ (0 : Int) < (o2.length : Int) then
     some ((((o1, o2.set 0 r9), 0)))
    else none
  else
   some ((((o1, o2), 1)))

def rf12_Deal_SetCrown.c : Callee' := mkC 87 ⟨30, 0, [.box (cr 1 (cr 2 .nil)), .arr .str, .arr .str], [0, 1], (cr 0 (.cons (.v (.st (.pair I (.pair I I)))) .nil))⟩ [⟨30, 3, [.box (cr 1 (cr 2 .nil)), .arr .str, .arr .str], [4], (cI .nil)⟩] rf12_Deal_SetCrown
theorem rf12_Deal_SetCrown.s : rf12_Deal_SetCrown.c.ok Tryz.prog := sd 30 (.z (.seq (.reg [.std, .callq [rf10_Write.c]]) (.seq (.seq (.drw []) (.cond (.z .std) .std)) (.z (.z .std))))) (kc rf10_Write.s kn) (kc rf10_Write.q kn) Tryz.func87

def stringslite_HasPrefix : (tB × tB) → Option (Bool) := fun (s0, prefix1) =>
 if decide ((s0.length : Int) ≥ (prefix1.length : Int)) = true then
  if 0 ≤ (prefix1.length : Int) ∧ (prefix1.length : Int) ≤ (s0.length : Int) then
   some ((((s0.take ((prefix1.length : Int)).toNat) == prefix1)))
  else none
 else
  some false

def stringslite_HasPrefix.c : Callee' := mkC 214 ⟨18, 0, [], [0, 1], (cS (cS .nil))⟩ [⟨18, 0, [], [4], (cB .nil)⟩] stringslite_HasPrefix
theorem stringslite_HasPrefix.q : FunQuiet stringslite_HasPrefix.c.F := mkFun_quiet rfl rfl
theorem stringslite_HasPrefix.s : stringslite_HasPrefix.c.ok Tryz.prog := sd 18 (.z (.z .std)) kn kn Tryz.func214

def stringslite_CutPrefix : (tB × tB) → Option (tB × Bool) := fun (s0, prefix1) =>
 (stringslite_HasPrefix (s0, prefix1)).bind fun r8 =>
  if (!r8) = true then
   some (((s0, false)))
  else
   if 0 ≤ (prefix1.length : Int) ∧ (prefix1.length : Int) ≤ (s0.length : Int) then
    some (((s0.drop ((prefix1.length : Int)).toNat, true)))
   else none

def stringslite_CutPrefix.c : Callee' := mkC 181 ⟨15, 0, [], [0, 1], (cS (cS .nil))⟩ [⟨15, 0, [], [4, 5], (cS (cB .nil))⟩] stringslite_CutPrefix
theorem stringslite_CutPrefix.q : FunQuiet stringslite_CutPrefix.c.F := mkFun_quiet rfl rfl
theorem stringslite_CutPrefix.s : stringslite_CutPrefix.c.ok Tryz.prog := sd 15 (.z (.seq (.seq (.rq 2 stringslite_HasPrefix.c) (.cond (.z .std) .std)) (.z .std))) (kc stringslite_HasPrefix.s kn) (kc stringslite_HasPrefix.q kn) Tryz.func181

def strings_CutPrefix : (tB × tB) → Option (tB × Bool) := fun (s0, prefix1) =>
 (stringslite_CutPrefix (s0, prefix1)).bind fun (r8, r8_2) =>
  some (((r8, r8_2)))

def strings_CutPrefix.c : Callee' := mkC 149 ⟨11, 0, [], [0, 1], (cS (cS .nil))⟩ [⟨11, 0, [], [4, 5], (cS (cB .nil))⟩] strings_CutPrefix
theorem strings_CutPrefix.q : FunQuiet strings_CutPrefix.c.F := mkFun_quiet rfl rfl
theorem strings_CutPrefix.s : strings_CutPrefix.c.ok Tryz.prog := sd 11 (.z (.seq (.rq 2 stringslite_CutPrefix.c) .std)) (kc stringslite_CutPrefix.s kn) (kc stringslite_CutPrefix.q kn) Tryz.func149

def crown_Read : tB → Option ((Int × Int × Int) × Int) := fun s0 =>
 (strings_CutPrefix (s0, ([119, 97, 105, 110, 119, 114, 105, 103, 104, 116] : tB))).bind fun (r11, r11_2) =>
  (crown_widths ()).bind fun r15 =>
   (mould_Read (r15, r11)).bind fun (r17, r17_2) =>
    if (!r11_2) = false then
     if (r17_2 != 0) = false then
      if ((s0.length : Int) != 128) = false then
       (crown_widths ()).bind fun r33 =>
        (mould_Size r33).bind fun r34 =>
         if 0 ≤ r34 ∧ r34 ≤ (r11.length : Int) then
          (strings_Trim (r11.drop r34.toNat, ([0] : tB))).bind fun r36 =>
           if (!(r36 == [])) = true then
            some ((((0, 0, 0), 15)))
           else
            if 0 ≤ (0 : Int) ∧ (0 : Int) < (r17.length : Int) then
             if 0 ≤ (1 : Int) ∧ (1 : Int) < (r17.length : Int) then
              if 0 ≤ (2 : Int) ∧ (2 : Int) < (r17.length : Int) then
               (crown_Right (r17.getD 0 0, r17.getD 1 0, r17.getD 2 0)).bind fun r51 =>
                if (!r51) = true then
                 some ((((0, 0, 0), 15)))
                else
                 some ((((r17.getD 0 0, r17.getD 1 0, r17.getD 2 0), 0)))
              else none
             else none
            else none
         else none
      else
       some ((((0, 0, 0), 15)))
     else
      some ((((0, 0, 0), 15)))
    else
     some ((((0, 0, 0), 15)))

def crown_Read.c : Callee' := mkC 105 ⟨55, 0, [], [0], (cS .nil)⟩ [⟨56, 0, [], [55, 3], (.cons (.v (.st (.pair I (.pair I I)))) (cI .nil))⟩] crown_Read
theorem crown_Read.q : FunQuiet crown_Read.c.F := mkFun_quiet rfl rfl
theorem crown_Read.s : crown_Read.c.ok Tryz.prog := sdR 55 [(2, 81)] (.z (.seq (.reg [.std, .callq [strings_CutPrefix.c]]) (.seq (.reg [.callq [crown_widths.c], .std, .callq [mould_Read.c]]) (.seq (.seq (.reg [.std, .std, .std, .std, .std, .std, .std, .std, .std, .std, .std, .std, .std, .callq [crown_widths.c], .callq [mould_Size.c], .std, .callq [strings_Trim.c]]) (.cond (.z .std) .std)) (.seq (.drw []) (.seq (.seq (.reg [.std, .callq [crown_Right.c]]) (.cond (.z .std) .std)) (.z .std))))))) (kc strings_CutPrefix.s (kc crown_widths.s (kc mould_Read.s (kc crown_widths.s (kc mould_Size.s (kc strings_Trim.s (kc crown_Right.s kn))))))) (kc strings_CutPrefix.q (kc crown_widths.q (kc mould_Read.q (kc crown_widths.q (kc mould_Size.q (kc strings_Trim.q (kc crown_Right.q kn))))))) Tryz.func105

def deal_Deal_Crown : (((tS × (tL) × Int × Int) × Bool × Int) × tL) → Option ((Int × Int × Int) × Int) := fun d0 =>
 (deal_written_get (d0, 0)).bind fun r13 =>
  (crown_Read r13).bind fun (r14, r14_2) =>
   if (r14_2 != 0) = false then
    (log_Log_Size d0.1).bind fun r27 =>
     if decide (r14.2.1 > r27) = true then
      some ((((0, 0, 0), 15)))
     else
      some (((r14, 0)))
   else
    some ((((0, 0, 0), 15)))

def deal_Deal_Crown.c : Callee' := mkC 50 ⟨32, 0, [], [0], (.cons (.v (.ptr (.pair (.ptr (.pair (.ptr (.pair (.sl .str) (.pair (.map I .str) (.pair I I)))) (.pair .bool I))) (.map I .str)))) .nil)⟩ [⟨33, 0, [], [32, 3], (.cons (.v (.st (.pair I (.pair I I)))) (cI .nil))⟩] deal_Deal_Crown
theorem deal_Deal_Crown.q : FunQuiet deal_Deal_Crown.c.F := mkFun_quiet rfl rfl
theorem deal_Deal_Crown.s : deal_Deal_Crown.c.ok Tryz.prog := sdR 32 [(2, 81)] (.z (.seq (.seq (.reg [.std, .obj .bool]) (.cond (.z .std) .std)) (.seq (.reg [.std, .std, .std, .callq [deal_written_get.c], .callq [crown_Read.c]]) (.seq (.seq (.drw [.std, .std, .std, .std, .std, .std, .std, .std, .std, .std, .callq [log_Log_Size.c]]) (.cond (.z .std) .std)) (.z .std))))) (kc deal_written_get.s (kc crown_Read.s (kc log_Log_Size.s kn))) (kc deal_written_get.q (kc crown_Read.q (kc log_Log_Size.q kn))) Tryz.func50

def rf01_Read.l2 : (tI × tI × tB × Int × Int × Int × Int) → Option ((tI × tI × tB × Int × Int × Int × Int) ⊕ (tI × tI × tB × Int × Int × Int)) := fun (out6, widths0, s1, at7, i8, v9, k10) =>
 if decide (k10 ≥ 0) = true then
  if 0 ≤ i64.wrap (at7 + k10) ∧ i64.wrap (at7 + k10) < (s1.length : Int) then
   some (.inl ((out6, widths0, s1, at7, i8, i64.wrap ((i64.wrap (256 * v9)) + (i64.wrap (((s1.getD ((i64.wrap (at7 + k10)).toNat) 0).toNat : Int)))), i64.wrap (k10 - 1))))
  else none
 else
  some (.inr (((out6, widths0, s1, at7, i8, v9))))

def rf01_Read.l1 : (tI × tI × tB × Int × Int) → Option ((tI × tI × tB × Int × Int) ⊕ tI) := fun (out6, widths0, s1, at7, i8) =>
 if decide (i8 < (widths0.length : Int)) = true then
  if 0 ≤ i8 ∧ i8 < (widths0.length : Int) then
   (loopO rf01_Read.l2 ((out6, widths0, s1, at7, i8, 0, i64.wrap ((widths0.getD i8.toNat 0) - 1)))).bind fun (out6, widths0, s1, at7, i8, v9) =>
    if roomOk (out6.length + (([v9] : tI)).length) 8 then
     if 0 ≤ i8 ∧ i8 < (widths0.length : Int) then
      some (.inl ((out6 ++ (([v9] : tI)), widths0, s1, i64.wrap (at7 + (widths0.getD i8.toNat 0)), i64.wrap (i8 + 1))))
     else none
    else none
  else none
 else
  some (.inr out6)

def rf01_Read : (tI × tB) → Option (tI × Int) := fun (widths0, s1) =>
 (rf01_Size widths0).bind fun r12 =>
  if decide (r12 < 0) = true then
   some (((([] : tI), 1)))
  else
   (rf01_Size widths0).bind fun r17 =>
    if decide ((s1.length : Int) < r17) = true then
     some (((([] : tI), 2)))
    else
     (loopO rf01_Read.l1 (([], widths0, s1, 0, 0))).bind fun out6 =>
      some (((out6, 0)))

def rf01_Read.c : Callee' := mkC 136 ⟨54, 0, [], [0, 1], (.cons (.v (.sl I)) (cS .nil))⟩ [⟨54, 0, [], [4, 5], (.cons (.v (.sl I)) (cI .nil))⟩] rf01_Read
theorem rf01_Read.q : FunQuiet rf01_Read.c.F := mkFun_quiet rfl rfl
theorem rf01_Read.s : rf01_Read.c.ok Tryz.prog := sd 54 (.z (.seq (.seq (.reg [.std, .callq [rf01_Size.c]]) (.cond (.z .std) .std)) (.seq (.seq (.rq 3 rf01_Size.c) (.cond (.z .std) .std)) (.z (.z (.seq (.z (.block (.loop ⟨54, 0, [.arr I], [0, 1, 6, 7, 8], (.cons (.v (.sl I)) (cS (cr 0 (cI (cI .nil)))))⟩ [(.exit 0, ⟨54, 0, [.arr I], [6], (cr 0 .nil)⟩)]
  (.seq (.z (.cond .std .std)) (.seq (.block (.z (.seq (.z (.block (.loop ⟨54, 0, [.arr I], [0, 1, 6, 7, 8, 9, 10], (.cons (.v (.sl I)) (cS (cr 0 (cI (cI (cI (cI .nil)))))))⟩ [(.exit 2, ⟨54, 0, [.arr I], [0, 1, 6, 7, 8, 9], (.cons (.v (.sl I)) (cS (cr 0 (cI (cI (cI .nil))))))⟩)]
  (.seq (.z (.cond .std .std)) (.seq (.block (.reg [])) (.reg [])))))) (.seq (.reg [.std, .std, .inl I, .obj I]) (.reg []))))) (.reg [])))))) (.z .std))))))) (kc rf01_Size.s (kc rf01_Size.s kn)) (kc rf01_Size.q (kc rf01_Size.q kn)) Tryz.func136

def rf10_Read : tB → Option ((Int × Int × Int) × Int) := fun s0 =>
 if ((s0.length : Int) != 128) = true then
  some ((((0, 0, 0), 15)))
 else
  if 0 ≤ (10 : Int) ∧ (10 : Int) ≤ (s0.length : Int) then
   (rf01_Read (([1, 2, 1] : tI), s0.drop 10)).bind fun (r17, r17_2) =>
    if 0 ≤ (0 : Int) ∧ (0 : Int) < (r17.length : Int) then
     if 0 ≤ (1 : Int) ∧ (1 : Int) < (r17.length : Int) then
      if 0 ≤ (2 : Int) ∧ (2 : Int) < (r17.length : Int) then
       (rf10_Write (r17.getD 0 0, r17.getD 1 0, r17.getD 2 0)).bind fun (r32, r32_2) =>
        if (r32_2 != 0) = false then
         if (!(r32 == s0)) = true then
          some ((((0, 0, 0), 15)))
         else
          some ((((r17.getD 0 0, r17.getD 1 0, r17.getD 2 0), 0)))
        else
         some ((((0, 0, 0), 15)))
      else none
     else none
    else none
  else none

def rf10_Read.c : Callee' := mkC 160 ⟨44, 0, [], [0], (cS .nil)⟩ [⟨45, 0, [], [44, 3], (.cons (.v (.st (.pair I (.pair I I)))) (cI .nil))⟩] rf10_Read
theorem rf10_Read.q : FunQuiet rf10_Read.c.F := mkFun_quiet rfl rfl
theorem rf10_Read.s : rf10_Read.c.ok Tryz.prog := sdR 44 [(2, 81)] (.z (.seq (.z (.cond (.z .std) .std)) (.seq (.reg [.inl I, .std, .std, .callq [rf01_Read.c]]) (.seq (.drw []) (.seq (.reg [.std, .callq [rf10_Write.c]]) (.seq (.z (.cond (.z .std) .std)) (.z .std))))))) (kc rf01_Read.s (kc rf10_Write.s kn)) (kc rf01_Read.q (kc rf10_Write.q kn)) Tryz.func160

def rf12_Deal_Crown : (tS × tS) → Option ((Int × Int × Int) × Int) := fun d0 =>
 if 0 ≤ (0 : Int) ∧ (0 : Int) < (d0.2.length : Int) then
  (rf10_Read (d0.2.getD 0 [])).bind fun (r13, r13_2) =>
   if (r13_2 != 0) = false then
    if decide (r13.2.1 > (d0.2.length : Int)) = true then
     some ((((0, 0, 0), 15)))
    else
     some (((r13, 0)))
   else
    some ((((0, 0, 0), 15)))
 else none

def rf12_Deal_Crown.c : Callee' := mkC 114 ⟨30, 0, [], [0], (.cons (.v (.ptr (.pair (.sl .str) (.sl .str)))) .nil)⟩ [⟨31, 0, [], [30, 3], (.cons (.v (.st (.pair I (.pair I I)))) (cI .nil))⟩] rf12_Deal_Crown
theorem rf12_Deal_Crown.q : FunQuiet rf12_Deal_Crown.c.F := mkFun_quiet rfl rfl
theorem rf12_Deal_Crown.s : rf12_Deal_Crown.c.ok Tryz.prog := sdR 30 [(2, 81)] (.z (.seq (.rq 6 rf10_Read.c) (.seq (.seq (.drw []) (.cond (.z .std) .std)) (.z .std)))) (kc rf10_Read.s kn) (kc rf10_Read.q kn) Tryz.func114

def crown_Card : Int → Option (Int × Int × Int) := fun node0 =>
 if decide (node0 < 0) = false then
  if decide (node0 ≥ 32) = true then
   some (((0, 0, 5)))
  else
   some (((i64.wrap (43 + (i64.wrap (Int.tdiv node0 4))), Int.tmod node0 4, 0)))
 else
  some (((0, 0, 5)))

def crown_Card.c : Callee' := mkC 151 ⟨16, 0, [], [0], (cI .nil)⟩ [⟨16, 0, [], [2, 3, 4], (cI (cI (cI .nil)))⟩] crown_Card
theorem crown_Card.q : FunQuiet crown_Card.c.F := mkFun_quiet rfl rfl
theorem crown_Card.s : crown_Card.c.ok Tryz.prog := sd 16 (.z (.seq (.z (.cond (.z .std) .std)) (.z .std))) kn kn Tryz.func151

def deal_Deal_place : ((((tS × (tL) × Int × Int) × Bool × Int) × tL) × Int) → Option (Int × tB × Int × Int) := fun (d0, node1) =>
 (crown_Card node1).bind fun (r15, r15_2, r15_3) =>
  if (r15_3 != 0) = true then
   some (((0, [], 0, r15_3)))
  else
   (deal_written_get (d0, r15)).bind fun r27 =>
    some (((r15, r27, r15_2, 0)))

def deal_Deal_place.c : Callee' := mkC 106 ⟨29, 0, [], [0, 1], (.cons (.v (.ptr (.pair (.ptr (.pair (.ptr (.pair (.sl .str) (.pair (.map I .str) (.pair I I)))) (.pair .bool I))) (.map I .str)))) (cI .nil))⟩ [⟨29, 0, [], [4, 5, 6, 7], (cI (cS (cI (cI .nil))))⟩] deal_Deal_place
theorem deal_Deal_place.q : FunQuiet deal_Deal_place.c.F := mkFun_quiet rfl rfl
theorem deal_Deal_place.s : deal_Deal_place.c.ok Tryz.prog := sd 29 (.z (.seq (.seq (.reg [.std, .obj .bool]) (.cond (.z .std) .std)) (.seq (.reg [.std, .callq [crown_Card.c]]) (.seq (.z (.cond (.z .std) .std)) (.seq (.rq 5 deal_written_get.c) .std))))) (kc crown_Card.s (kc deal_written_get.s kn)) (kc crown_Card.q (kc deal_written_get.q kn)) Tryz.func106

def cards_there : (tB × Int) → Option (Bool) := fun (block0, k1) =>
 if ((block0.length : Int) == 128) = true then
  if decide (k1 ≥ 0) = true then
   some ((decide (k1 < 4)))
  else
   some false
 else
  some false

def cards_there.c : Callee' := mkC 152 ⟨16, 0, [], [0, 1], (cS (cI .nil))⟩ [⟨16, 0, [], [4], (cB .nil)⟩] cards_there
theorem cards_there.q : FunQuiet cards_there.c.F := mkFun_quiet rfl rfl
theorem cards_there.s : cards_there.c.ok Tryz.prog := sd 16 (.z (.z .std)) kn kn Tryz.func152

def cards_Pick : (tB × Int) → Option (tB × Int) := fun (block0, k1) =>
 (cards_there (block0, k1)).bind fun r8 =>
  if (!r8) = true then
   some ((([], 1)))
  else
   if 0 ≤ i64.wrap (32 * k1) ∧ i64.wrap (32 * k1) ≤ i64.wrap ((i64.wrap (32 * k1)) + 32) ∧ i64.wrap ((i64.wrap (32 * k1)) + 32) ≤ (block0.length : Int) then
    some ((((block0.take (i64.wrap ((i64.wrap (32 * k1)) + 32)).toNat).drop (i64.wrap (32 * k1)).toNat, 0)))
   else none

def cards_Pick.c : Callee' := mkC 107 ⟨17, 0, [], [0, 1], (cS (cI .nil))⟩ [⟨17, 0, [], [4, 5], (cS (cI .nil))⟩] cards_Pick
theorem cards_Pick.q : FunQuiet cards_Pick.c.F := mkFun_quiet rfl rfl
theorem cards_Pick.s : cards_Pick.c.ok Tryz.prog := sd 17 (.z (.seq (.seq (.rq 2 cards_there.c) (.cond (.z .std) .std)) (.z .std))) (kc cards_there.s kn) (kc cards_there.q kn) Tryz.func107

def cards_moulds : Int → Option (Unit ⊕ tI) := fun format0 =>
 if (format0 == 1) = true then
  (slices_Repeat_int_int (([2] : tI), 6)).bind fun r10 =>
   if roomOk ((([1, 1, 2, 4] : tI)).length + r10.length) 8 then
    some (.inr (((([1, 1, 2, 4] : tI)) ++ r10)))
   else none
 else
  if (format0 == 2) = true then
   if roomOk ((([1, 1, 2, 4] : tI)).length + (([1] : tI)).length) 8 then
    (slices_Repeat_int_int (([2] : tI), 10)).bind fun r18 =>
     if roomOk (((([1, 1, 2, 4] : tI)) ++ (([1] : tI))).length + r18.length) 8 then
      some (.inr ((((([1, 1, 2, 4] : tI)) ++ (([1] : tI))) ++ r18)))
     else none
   else none
  else
   some (.inl ())

def cards_moulds.c : Callee' := mkC 153 ⟨20, 0, [], [0], (cI .nil)⟩ [⟨20, 0, [], [2], (.cons (.nilsl) .nil)⟩, ⟨20, 0, [], [2], (.cons (.v (.sl I)) .nil)⟩] cards_moulds
theorem cards_moulds.q : FunQuiet cards_moulds.c.F := mkFun_quiet rfl rfl
theorem cards_moulds.s : cards_moulds.c.ok Tryz.prog := sd 20 (.z (.seq (.reg [.obj I]) (.seq (.z (.block (.z (.cond (.seq (.reg [.std, .inl I, .callq [slices_Repeat_int_int.c], .obj I]) .std) (.z (.cond (.seq (.reg [.std, .inl I, .obj I, .inl I, .callq [slices_Repeat_int_int.c], .obj I]) .std) .std)))))) (.z .std)))) (kc slices_Repeat_int_int.s (kc slices_Repeat_int_int.s kn)) (kc slices_Repeat_int_int.q (kc slices_Repeat_int_int.q kn)) Tryz.func153

def slices_Clone_int_int : tI → Option tI := fun s0 =>
 if s0.isEmpty = true then
  agree (
   some ((([] : tI)))) (
   if roomOk ((([] : tI)).length + s0.length) 8 then
    some (((([] : tI)) ++ s0))
   else none)
 else
  if roomOk ((([] : tI)).length + s0.length) 8 then
   some (((([] : tI)) ++ s0))
  else none

def slices_Clone_int_int.c : Callee' := mkC 182 ⟨8, 0, [], [0], (.cons (.v (.sl I)) .nil)⟩ [⟨8, 0, [], [2], (.cons (.v (.sl I)) .nil)⟩] slices_Clone_int_int
theorem slices_Clone_int_int.q : FunQuiet slices_Clone_int_int.c.F := mkFun_quiet rfl rfl
theorem slices_Clone_int_int.s : slices_Clone_int_int.c.ok Tryz.prog := sd 8 (.z (.seq (.seq (.reg [.std, .obj .bool]) (.cond (.z .std) .std)) (.seq (.reg [.obj I, .std, .obj I]) .std))) kn kn Tryz.func182

def slices_Chunk_int_int : (tI × Int) → Option (tI × Int) := fun (s0, n1) =>
 if decide (n1 < 1) = true then none else
 some (((s0, n1)))

def slices_Chunk_int_int.c : Callee' := mkC 183 ⟨9, 0, [], [0, 1], (.cons (.v (.sl I)) (cI .nil))⟩ [⟨9, 0, [], [4], (.cons (.fn (.func 215) .nil (.cons (.v (.ptr (.sl I))) (.cons (.v (.ptr I)) .nil))) .nil)⟩] slices_Chunk_int_int
theorem slices_Chunk_int_int.q : FunQuiet slices_Chunk_int_int.c.F := mkFun_quiet rfl rfl
theorem slices_Chunk_int_int.s : slices_Chunk_int_int.c.ok Tryz.prog := sd 9 (.seq (.reg [.inl (.sl I), .inl I]) (.seq (.z (.cond (.reg []) .std)) (.z .std))) kn kn Tryz.func183

def cards_card.l1 : tI → ((tC × (Int × Int × Int × Int × tI × Int × Int × Int) × List (Int × Int × Int)) × tI) → Option ((tC × (Int × Int × Int × Int × tI × Int × Int × Int) × List (Int × Int × Int)) × tI) := fun t47p (((t2a, t2b, t2c, t2d, t2e, t2f, t2g, t2h, t2i), (c3a, c3b, c3c, c3d, c3e, c3f, c3g, c3i), o2), l0) =>
 if 0 ≤ (0 : Int) ∧ (0 : Int) < (t47p.length : Int) then
  if 0 ≤ (1 : Int) ∧ (1 : Int) < (t47p.length : Int) then
   if 0 ≤ (2 : Int) ∧ (2 : Int) < (t47p.length : Int) then
    if roomOk (o2.length + (([(t47p.getD 0 0, t47p.getD 1 0, t47p.getD 2 0)] : List (Int × Int × Int))).length) 24 then
     some ((((t2a, t2b, t2c, t2d, t2e, t2f, t2g, t2h, t2i), (c3a, c3b, c3c, c3d, c3e, c3f, c3g, c3i), o2 ++ (([(t47p.getD 0 0, t47p.getD 1 0, t47p.getD 2 0)] : List (Int × Int × Int)))), l0))
    else none
   else none
  else none
 else none

def cards_card : tI → Option tC := fun l0 =>
 if 0 ≤ (0 : Int) ∧ (0 : Int) < (l0.length : Int) then
  if 0 ≤ (1 : Int) ∧ (1 : Int) < (l0.length : Int) then
   if 0 ≤ (2 : Int) ∧ (2 : Int) < (l0.length : Int) then
    if 0 ≤ (3 : Int) ∧ (3 : Int) < (l0.length : Int) then
     if 0 ≤ (4 : Int) ∧ (4 : Int) ≤ (l0.length : Int) then
      if (l0.getD 0 0 == 1) = true then
       if 0 ≤ (4 : Int) ∧ (4 : Int) ≤ ((l0.drop 4).length : Int) then
        (slices_Clone_int_int ((l0.drop 4).take 4)).bind fun r26 =>
         if 0 ≤ (4 : Int) ∧ (4 : Int) < ((l0.drop 4).length : Int) then
          if 0 ≤ (5 : Int) ∧ (5 : Int) < ((l0.drop 4).length : Int) then
           some (((l0.getD 0 0, l0.getD 1 0, l0.getD 2 0, l0.getD 3 0, r26, (l0.drop 4).getD 4 0, (l0.drop 4).getD 5 0, ([] : List (Int × Int × Int)), 0)))
          else none
         else none
       else none
      else
       if 0 ≤ (0 : Int) ∧ (0 : Int) < ((l0.drop 4).length : Int) then
        if 0 ≤ (1 : Int) ∧ (1 : Int) ≤ i64.wrap (1 + (i64.wrap (3 * (if 3 < (l0.drop 4).getD 0 0 then 3 else (l0.drop 4).getD 0 0)))) ∧ i64.wrap (1 + (i64.wrap (3 * (if 3 < (l0.drop 4).getD 0 0 then 3 else (l0.drop 4).getD 0 0)))) ≤ ((l0.drop 4).length : Int) then
         (slices_Chunk_int_int (((l0.drop 4).take (i64.wrap (1 + (i64.wrap (3 * (if 3 < (l0.drop 4).getD 0 0 then 3 else (l0.drop 4).getD 0 0))))).toNat).drop 1, 3)).bind fun (r46, r46_2) =>
          if 1 ≤ (r46_2 : Int) ∧ (r46_2 : Int) + (r46.length : Int) ≤ 9223372036854775807 then
            (foldO cards_card.l1 (chunks (r46_2 : Int).toNat r46.length r46) (((zC, (l0.getD 0 0, l0.getD 1 0, l0.getD 2 0, l0.getD 3 0, ([] : tI), 0, 0, 0), []), l0.drop 4))).bind fun (((t2a, t2b, t2c, t2d, t2e, t2f, t2g, t2h, t2i), (c3a, c3b, c3c, c3d, c3e, c3f, c3g, c3i), o2), l0) =>
            if 0 ≤ i64.wrap ((l0.length : Int) - 1) ∧ i64.wrap ((l0.length : Int) - 1) < (l0.length : Int) then
             some (((c3a, c3b, c3c, c3d, c3e, c3f, c3g, o2, l0.getD ((i64.wrap ((l0.length : Int) - 1)).toNat) 0)))
            else none
          else none
        else none
       else none
     else none
    else none
   else none
  else none
 else none

def cards_card.c : Callee' := mkC 154 ⟨71, 0, [], [0], (.cons (.v (.sl I)) .nil)⟩ [⟨72, 0, [], [71], (.cons (.v (yC)) .nil)⟩] cards_card
theorem cards_card.q : FunQuiet cards_card.c.F := mkFun_quiet rfl rfl
theorem cards_card.s : cards_card.c.ok Tryz.prog := sdRK 71 [(2, 84)] (.z (.seq (.drw []) (.z (.seq (.z (.cond (.seq (.drw [.std, .inl (.int .u8), .callq [slices_Clone_int_int.c]]) (.z .std)) .std)) (.z (.seq (.seq (.rq 5 slices_Chunk_int_int.c) (.block (.chunk 215 22 3 I ⟨71, 0, [.box (cI (cI (cI (cI (.cons (.v (.sl I)) (cI (cI (.cons (.v (.sl (.st (.pair I (.pair I I))))) (cI .nil))))))))), .box (cI (cI (cI (cI (.cons (.v (.sl I)) (cI (cI (cr 2 (cI .nil))))))))), .arr (.st (.pair I (.pair I I)))], [0, 2, 3], (.cons (.v (.sl I)) (cr 0 (cr 1 .nil)))⟩
  (.reg []) (.block (.drw [.std, .std, .std, .std, .std, .std, .std, .std, .std, .std, .std, .std, .inl (.st (.pair I (.pair I I))), .obj (.st (.pair I (.pair I I)))]))))) (.z (.z .std)))))))) (kc slices_Clone_int_int.s (kc slices_Chunk_int_int.s kn)) (kc slices_Clone_int_int.q (kc slices_Chunk_int_int.q kn)) (ls_cons ⟨Tryz.f215, 242, 4, Tryz.func215, by kernel_rfl, rfl, rfl, by decide⟩ (ls_nil)) Tryz.func154

def slices_Grow_int_int : Int → Option tI := fun n1 =>
 if decide (n1 < 0) = true then none else
 if decide (i64.wrap (n1 - (i64.wrap (0 - 0))) > 0) = true then
  if 0 ≤ (0 : Int) ∧ (0 : Int) ≤ 0 then
   if 0 ≤ i64.wrap (n1 - (i64.wrap (0 - 0))) ∧ i64.wrap (n1 - (i64.wrap (0 - 0))) ≤ 9223372036854775807 ∧ roomOk (i64.wrap (n1 - (i64.wrap (0 - 0)))).toNat 8 then
    if 0 ≤ (0 : Int) ∧ (0 : Int) ≤ ((List.replicate (i64.wrap (n1 - (i64.wrap (0 - 0)))).toNat (0 : Int)).length : Int) then
     some ((((List.replicate (i64.wrap (n1 - (i64.wrap (0 - 0)))).toNat (0 : Int)).drop 0).take (((0 : Int) - 0).toNat)))
    else none
   else none
  else none
 else
  some ((([] : tI)))

def slices_Grow_int_int.c : Callee' := mkC 218 ⟨27, 0, [], [0, 1], (.cons (.nilsl) (cI .nil))⟩ [⟨27, 0, [], [4], (.cons (.v (.sl I)) .nil)⟩] slices_Grow_int_int
theorem slices_Grow_int_int.q : FunQuiet slices_Grow_int_int.c.F := mkFun_quiet rfl rfl
theorem slices_Grow_int_int.s : slices_Grow_int_int.c.ok Tryz.prog := sd 27 (.z (.seq (.z (.cond (.reg []) .std)) (.seq (.z (.z (.cond (.reg [.std, .std, .std, .std, .std, .inl I]) .std))) (.z .std)))) kn kn Tryz.func218

def slices_Grow_int_int_1 : Int → Option tI := fun n1 =>
 if decide (n1 < 0) = true then none else
 if decide (i64.wrap (n1 - (i64.wrap (0 - 0))) > 0) = true then
  if 0 ≤ (0 : Int) ∧ (0 : Int) ≤ 0 then
   if 0 ≤ i64.wrap (n1 - (i64.wrap (0 - 0))) ∧ i64.wrap (n1 - (i64.wrap (0 - 0))) ≤ 9223372036854775807 ∧ roomOk (i64.wrap (n1 - (i64.wrap (0 - 0)))).toNat 8 then
    if 0 ≤ (0 : Int) ∧ (0 : Int) ≤ ((List.replicate (i64.wrap (n1 - (i64.wrap (0 - 0)))).toNat (0 : Int)).length : Int) then
     some ((((List.replicate (i64.wrap (n1 - (i64.wrap (0 - 0)))).toNat (0 : Int)).drop 0).take (((0 : Int) - 0).toNat)))
    else none
   else none
  else none
 else
  some []

def slices_Grow_int_int_1.c : Callee' := mkC 218 ⟨27, 0, [], [0, 1], (.cons (.nilsl) (cI .nil))⟩ [⟨27, 0, [.arr I], [4], (cr 0 .nil)⟩] slices_Grow_int_int_1
theorem slices_Grow_int_int_1.s : slices_Grow_int_int_1.c.ok Tryz.prog := sd 27 (.z (.seq (.z (.cond (.reg []) .std)) (.seq (.z (.z (.cond (.reg [.std, .std, .std, .std, .std, .inl I]) .std))) (.z .std)))) kn kn Tryz.func218

def slices_Concat_int_int.l1 : (List (tI) × Int × List (tI) × Int × Int) → Option ((List (tI) × Int × List (tI) × Int × Int) ⊕ (List (tI) × Int)) := fun (slices0, size3, t9, t10, t11) =>
 if decide (t11 < t10) = true then
  if 0 ≤ t11 ∧ t11 < (t9.length : Int) then
   if decide (i64.wrap (size3 + ((t9.getD t11.toNat []).length : Int)) < 0) = true then none else
   some (.inl ((slices0, i64.wrap (size3 + ((t9.getD t11.toNat []).length : Int)), t9, t10, i64.wrap (t11 + 1))))
  else none
 else
  some (.inr (((slices0, size3))))

def slices_Concat_int_int.l2 : (tI × List (tI) × Int × Int) → Option ((tI × List (tI) × Int × Int) ⊕ tI) := fun (newslice6, t25, t26, t27) =>
 if decide (t27 < t26) = true then
  if 0 ≤ t27 ∧ t27 < (t25.length : Int) then
   if roomOk (newslice6.length + (t25.getD t27.toNat []).length) 8 then
    some (.inl ((newslice6 ++ (t25.getD t27.toNat []), t25, t26, i64.wrap (t27 + 1))))
   else none
  else none
 else
  some (.inr newslice6)

def slices_Concat_int_int : List tI → Option tI := fun slices0 =>
 (loopO slices_Concat_int_int.l1 ((slices0, 0, slices0, (slices0.length : Int), 0))).bind fun (slices0, size3) =>
  (slices_Grow_int_int_1 size3).bind fun r24 =>
   (loopO slices_Concat_int_int.l2 ((r24, slices0, (slices0.length : Int), 0))).bind fun newslice6 =>
    some newslice6

def slices_Concat_int_int.c : Callee' := mkC 189 ⟨36, 0, [], [0], (.cons (.v (.sl (.sl I))) .nil)⟩ [⟨36, 0, [], [2], (.cons (.v (.sl I)) .nil)⟩] slices_Concat_int_int
theorem slices_Concat_int_int.q : FunQuiet slices_Concat_int_int.c.F := mkFun_quiet rfl rfl
theorem slices_Concat_int_int.s : slices_Concat_int_int.c.ok Tryz.prog := sd 36 (.z (.z (.seq (.z (.block (.loop ⟨36, 0, [], [0, 3, 9, 10, 11], (.cons (.v (.sl (.sl I))) (cI (.cons (.v (.sl (.sl I))) (cI (cI .nil)))))⟩ [(.exit 0, ⟨36, 0, [], [0, 3], (.cons (.v (.sl (.sl I))) (cI .nil))⟩)]
  (.z (.seq (.cond .std .std) (.seq (.block (.z (.z (.z (.cond (.reg []) .std))))) (.reg []))))))) (.seq (.reg [.std, .call [slices_Grow_int_int_1.c]]) (.seq (.z (.block (.loop ⟨36, 0, [.arr I], [6, 25, 26, 27], (cr 0 (.cons (.v (.sl (.sl I))) (cI (cI .nil))))⟩ [(.exit 2, ⟨36, 0, [.arr I], [6], (cr 0 .nil)⟩)]
  (.z (.seq (.cond .std .std) (.seq (.block (.z (.reg [.std, .std, .obj I]))) (.reg []))))))) (.z .std)))))) (kc slices_Grow_int_int_1.s kn) kn Tryz.func189

def slices_Equal_int_int.l1 : (tI × tI × Int × Int) → Option ((tI × tI × Int × Int) ⊕ (Unit ⊕ Bool)) := fun (s10, s21, t12, t13) =>
 if decide (t13 < t12) = true then
  if 0 ≤ t13 ∧ t13 < (s10.length : Int) then
   if 0 ≤ t13 ∧ t13 < (s21.length : Int) then
    if (s10.getD t13.toNat 0 != s21.getD t13.toNat 0) = true then
     some (.inr (.inr false))
    else
     some (.inl ((s10, s21, t12, i64.wrap (t13 + 1))))
   else none
  else none
 else
  some (.inr (.inl ()))

def slices_Equal_int_int : (tI × tI) → Option (Bool) := fun (s10, s21) =>
 if ((s10.length : Int) != (s21.length : Int)) = true then
  some false
 else
  (loopO slices_Equal_int_int.l1 ((s10, s21, (s10.length : Int), 0))).bind fun d => match d with
  | .inl _ =>
   some true
  | .inr t4 =>
   some t4

def slices_Equal_int_int.c : Callee' := mkC 222 ⟨26, 0, [], [0, 1], (.cons (.v (.sl I)) (.cons (.v (.sl I)) .nil))⟩ [⟨26, 0, [], [4], (cB .nil)⟩] slices_Equal_int_int
theorem slices_Equal_int_int.q : FunQuiet slices_Equal_int_int.c.F := mkFun_quiet rfl rfl
theorem slices_Equal_int_int.s : slices_Equal_int_int.c.ok Tryz.prog := sd 26 (.z (.seq (.z (.cond (.z .std) .std)) (.seq (.z (.block (.loop ⟨26, 0, [], [0, 1, 12, 13], (.cons (.v (.sl I)) (.cons (.v (.sl I)) (cI (cI .nil))))⟩ [(.exit 0, ⟨26, 0, [], [], .nil⟩), (.ret, ⟨26, 0, [], [4], (cB .nil)⟩)]
  (.z (.seq (.cond .std .std) (.seq (.block (.z (.seq (.drw []) (.cond (.z .std) .std)))) (.reg []))))))) (.z .std)))) kn kn Tryz.func222

def api_Span.l1 : ((List (Int × Int × Int)) × (List (Int × Int × Int)) × Int × Int) → Option (((List (Int × Int × Int)) × (List (Int × Int × Int)) × Int × Int) ⊕ (Unit ⊕ Bool)) := fun (s10, s21, t12, t13) =>
 if decide (t13 < t12) = true then
  if 0 ≤ t13 ∧ t13 < (s10.length : Int) then
   if 0 ≤ t13 ∧ t13 < (s21.length : Int) then
    if (!(((s10.getD t13.toNat (0, (0, 0))).1 == (s21.getD t13.toNat (0, (0, 0))).1) && ((((s10.getD t13.toNat (0, (0, 0))).2).1 == ((s21.getD t13.toNat (0, (0, 0))).2).1) && (((s10.getD t13.toNat (0, (0, 0))).2).2 == ((s21.getD t13.toNat (0, (0, 0))).2).2)))) = true then
     some (.inr (.inr false))
    else
     some (.inl ((s10, s21, t12, i64.wrap (t13 + 1))))
   else none
  else none
 else
  some (.inr (.inl ()))

def api_Span : ((List (Int × Int × Int)) × List (Int × Int × Int)) → Option (Bool) := fun (s10, s21) =>
 if ((s10.length : Int) != (s21.length : Int)) = true then
  some false
 else
  (loopO api_Span.l1 ((s10, s21, (s10.length : Int), 0))).bind fun d => match d with
  | .inl _ =>
   some true
  | .inr t4 =>
   some t4

def api_Span.c : Callee' := mkC 223 ⟨26, 0, [], [0, 1], (.cons (.v (.sl (.st (.pair I (.pair I I))))) (.cons (.v (.sl (.st (.pair I (.pair I I))))) .nil))⟩ [⟨26, 0, [], [4], (cB .nil)⟩] api_Span
theorem api_Span.q : FunQuiet api_Span.c.F := mkFun_quiet rfl rfl
theorem api_Span.s : api_Span.c.ok Tryz.prog := sd 26 (.z (.seq (.z (.cond (.z .std) .std)) (.seq (.z (.block (.loop ⟨26, 0, [], [0, 1, 12, 13], (.cons (.v (.sl (.st (.pair I (.pair I I))))) (.cons (.v (.sl (.st (.pair I (.pair I I))))) (cI (cI .nil))))⟩ [(.exit 0, ⟨26, 0, [], [], .nil⟩), (.ret, ⟨26, 0, [], [4], (cB .nil)⟩)]
  (.z (.seq (.cond .std .std) (.seq (.block (.z (.seq (.drw [.std, .std, .std, .std, .std, .std, .std, .std, .eqs 190]) (.cond (.z .std) .std)))) (.reg []))))))) (.z .std)))) kn kn Tryz.func223

def cards_plain : tC → Option (Int × Int × Int × Int × Int × Int × Int) := fun c0 =>
 some (((c0.1, c0.2.1, c0.2.2.1, c0.2.2.2.1, c0.2.2.2.2.2.1, c0.2.2.2.2.2.2.1, c0.2.2.2.2.2.2.2.2)))

def cards_plain.c : Callee' := mkC 224 ⟨18, 0, [], [0], (.cons (.v (yC)) .nil)⟩ [⟨19, 0, [], [18], (.cons (.v (.st (.pair I (.pair I (.pair I (.pair I (.pair I (.pair I I)))))))) .nil)⟩] cards_plain
theorem cards_plain.q : FunQuiet cards_plain.c.F := mkFun_quiet rfl rfl
theorem cards_plain.s : cards_plain.c.ok Tryz.prog := sdR 18 [(2, 248)] (.z (.z .std)) kn kn Tryz.func224

def cards_Same : (tC × tC) → Option (Bool) := fun (a0, b1) =>
 (slices_Equal_int_int (a0.2.2.2.2.1, b1.2.2.2.2.1)).bind fun r9 =>
  if (!r9) = false then
   (api_Span (a0.2.2.2.2.2.2.2.1, b1.2.2.2.2.2.2.2.1)).bind fun r16 =>
    if (!r16) = true then
     some false
    else
     (cards_plain a0).bind fun r20 =>
      (cards_plain b1).bind fun r22 =>
       some ((((r20.1 == r22.1) && ((r20.2.1 == r22.2.1) && ((r20.2.2.1 == r22.2.2.1) && ((r20.2.2.2.1 == r22.2.2.2.1) && ((r20.2.2.2.2.1 == r22.2.2.2.2.1) && ((r20.2.2.2.2.2.1 == r22.2.2.2.2.2.1) && (r20.2.2.2.2.2.2 == r22.2.2.2.2.2.2)))))))))
  else
   some false

def cards_Same.c : Callee' := mkC 194 ⟨24, 0, [], [0, 1], (.cons (.v (yC)) (.cons (.v (yC)) .nil))⟩ [⟨24, 0, [], [4], (cB .nil)⟩] cards_Same
theorem cards_Same.q : FunQuiet cards_Same.c.F := mkFun_quiet rfl rfl
theorem cards_Same.s : cards_Same.c.ok Tryz.prog := sd 24 (.z (.seq (.seq (.reg [.std, .std, .std, .std, .callq [slices_Equal_int_int.c], .std, .std, .std, .std, .std, .std, .callq [api_Span.c]]) (.cond (.z .std) .std)) (.seq (.drw [.std, .callq [cards_plain.c], .std, .callq [cards_plain.c], .eqs 248]) .std))) (kc slices_Equal_int_int.s (kc api_Span.s (kc cards_plain.s (kc cards_plain.s kn)))) (kc slices_Equal_int_int.q (kc api_Span.q (kc cards_plain.q (kc cards_plain.q kn)))) Tryz.func194

def cards_none : tC → Option (Bool) := fun c0 =>
 (cards_Same (c0, 0, 0, 0, 0, ([] : tI), 0, 0, ([] : List (Int × Int × Int)), 0)).bind fun r5 =>
  some r5

def cards_none.c : Callee' := mkC 158 ⟨6, 0, [], [0], (.cons (.v (yC)) .nil)⟩ [⟨6, 0, [], [2], (cB .nil)⟩] cards_none
theorem cards_none.q : FunQuiet cards_none.c.F := mkFun_quiet rfl rfl
theorem cards_none.s : cards_none.c.ok Tryz.prog := sd 6 (.z (.seq (.rq 2 cards_Same.c) .std)) (kc cards_Same.s kn) (kc cards_Same.q kn) Tryz.func158

def cards_odd : Int → Option (Bool) := fun n0 =>
 if decide (n0 < 0) = false then
  some ((decide (n0 > 65535)))
 else
  some true

def cards_odd.c : Callee' := mkC 191 ⟨9, 0, [], [0], (cI .nil)⟩ [⟨9, 0, [], [2], (cB .nil)⟩] cards_odd
theorem cards_odd.q : FunQuiet cards_odd.c.F := mkFun_quiet rfl rfl
theorem cards_odd.s : cards_odd.c.ok Tryz.prog := sd 9 (.z (.z .std)) kn kn Tryz.func191

def slices_IndexFunc_int_int.l1 : (tI × Int × Int) → Option ((tI × Int × Int) ⊕ (Unit ⊕ Int)) := fun (s0, t7, t8) =>
 if decide (t8 < t7) = true then
  if 0 ≤ t8 ∧ t8 < (s0.length : Int) then
   (cards_odd (s0.getD t8.toNat 0)).bind fun r16 =>
    if r16 = true then
     some (.inr (.inr t8))
    else
     some (.inl ((s0, t7, i64.wrap (t8 + 1))))
  else none
 else
  some (.inr (.inl ()))

def slices_IndexFunc_int_int : tI → Option (Int) := fun s0 =>
 (loopO slices_IndexFunc_int_int.l1 ((s0, (s0.length : Int), 0))).bind fun d => match d with
 | .inl _ =>
  some (-1)
 | .inr t4 =>
  some t4

def slices_IndexFunc_int_int.c : Callee' := mkC 219 ⟨19, 0, [], [0, 1], (.cons (.v (.sl I)) (.cons (.fn (.func 191) .nil .nil) .nil))⟩ [⟨19, 0, [], [4], (cI .nil)⟩] slices_IndexFunc_int_int
theorem slices_IndexFunc_int_int.q : FunQuiet slices_IndexFunc_int_int.c.F := mkFun_quiet rfl rfl
theorem slices_IndexFunc_int_int.s : slices_IndexFunc_int_int.c.ok Tryz.prog := sd 19 (.z (.seq (.z (.block (.loop ⟨19, 0, [], [0, 1, 7, 8], (.cons (.v (.sl I)) (.cons (.fn (.func 191) .nil .nil) (cI (cI .nil))))⟩ [(.exit 0, ⟨19, 0, [], [], .nil⟩), (.ret, ⟨19, 0, [], [4], (cI .nil)⟩)]
  (.z (.seq (.cond .std .std) (.seq (.block (.z (.seq (.rq 5 cards_odd.c) (.cond (.z .std) .std)))) (.reg []))))))) (.z .std))) (kc cards_odd.s kn) (kc cards_odd.q kn) Tryz.func219

def slices_ContainsFunc_int_int : tI → Option (Bool) := fun s0 =>
 (slices_IndexFunc_int_int s0).bind fun r7 =>
  some ((decide (r7 ≥ 0)))

def slices_ContainsFunc_int_int.c : Callee' := mkC 190 ⟨9, 0, [], [0, 1], (.cons (.v (.sl I)) (.cons (.fn (.func 191) .nil .nil) .nil))⟩ [⟨9, 0, [], [4], (cB .nil)⟩] slices_ContainsFunc_int_int
theorem slices_ContainsFunc_int_int.q : FunQuiet slices_ContainsFunc_int_int.c.F := mkFun_quiet rfl rfl
theorem slices_ContainsFunc_int_int.s : slices_ContainsFunc_int_int.c.ok Tryz.prog := sd 9 (.z (.seq (.rq 2 slices_IndexFunc_int_int.c) .std)) (kc slices_IndexFunc_int_int.s kn) (kc slices_IndexFunc_int_int.q kn) Tryz.func190

def cards_head : (tC × Int) → Option (Bool) := fun (c0, blocks1) =>
 ((
  if (c0.2.1 == 1) = false then
   some (((c0, blocks1, (c0.2.1 == 2))))
  else
   some (((c0, blocks1, true)))) : Option (tC × Int × Bool)).bind fun ((c2a, c2b, c2c, c2d, c2e, c2f, c2g, c2h, c2i), blocks1, kind5) =>
  if kind5 = true then
   if decide (c2c ≥ 1) = true then
    if decide (c2c ≤ 200) = true then
     if decide (c2d ≥ 0) = true then
      some ((decide (c2d ≤ i64.wrap (128 * blocks1))))
     else
      some false
    else
     some false
   else
    some false
  else
   some false

def cards_head.c : Callee' := mkC 192 ⟨37, 0, [], [0, 1], (.cons (.v (yC)) (cI .nil))⟩ [⟨37, 0, [], [4], (cB .nil)⟩] cards_head
theorem cards_head.q : FunQuiet cards_head.c.F := mkFun_quiet rfl rfl
theorem cards_head.s : cards_head.c.ok Tryz.prog := sd 37 (.z (.join [(.norm, ⟨37, 0, [.box (cI (cI (cI (cI (.cons (.v (.sl I)) (cI (cI (.cons (.v (.sl (.st (.pair I (.pair I I))))) (cI .nil)))))))))], [1, 2, 5], (cI (cr 0 (cB .nil)))⟩)]
  (.reg []) (.z .std))) kn kn Tryz.func192

def spans_odd : (Int × Int × Int) → Option (Bool) := fun s0 =>
 if decide (s0.1 < 0) = false then
  if decide (s0.2.1 < 1) = false then
   if decide (s0.2.2 < 1) = false then
    if decide (s0.2.2 ≥ 65536) = false then
     if decide (s0.1 > i64.wrap (65536 - s0.2.2)) = false then
      some ((decide (s0.2.1 > i64.wrap (65536 - s0.2.2))))
     else
      some true
    else
     some true
   else
    some true
  else
   some true
 else
  some true

def spans_odd.c : Callee' := mkC 220 ⟨37, 0, [], [0], (.cons (.v (.st (.pair I (.pair I I)))) .nil)⟩ [⟨37, 0, [], [2], (cB .nil)⟩] spans_odd
theorem spans_odd.q : FunQuiet spans_odd.c.F := mkFun_quiet rfl rfl
theorem spans_odd.s : spans_odd.c.ok Tryz.prog := sd 37 (.z (.z .std)) kn kn Tryz.func220

def spans_joins : ((Int × Int × Int) × Int × Int × Int) → Option (Bool) := fun (a0, b1) =>
 if (i64.wrap (a0.1 + a0.2.2) == b1.1) = true then
  some (((i64.wrap (a0.2.1 + a0.2.2) == b1.2.1)))
 else
  some false

def spans_joins.c : Callee' := mkC 221 ⟨23, 0, [], [0, 1], (.cons (.v (.st (.pair I (.pair I I)))) (.cons (.v (.st (.pair I (.pair I I)))) .nil))⟩ [⟨23, 0, [], [4], (cB .nil)⟩] spans_joins
theorem spans_joins.q : FunQuiet spans_joins.c.F := mkFun_quiet rfl rfl
theorem spans_joins.s : spans_joins.c.ok Tryz.prog := sd 23 (.z (.z .std)) kn kn Tryz.func221

def spans_Right.l1 : ((List (Int × Int × Int)) × (List (Int × Int × Int)) × Int × Int) → Option (((List (Int × Int × Int)) × (List (Int × Int × Int)) × Int × Int) ⊕ (Unit ⊕ Bool)) := fun (l0, t5, t6, t7) =>
 if decide (t7 < t6) = true then
  if 0 ≤ t7 ∧ t7 < (t5.length : Int) then
   (spans_odd (t5.getD t7.toNat (0, (0, 0)))).bind fun r13 =>
    if r13 = false then
     if decide (t7 > 0) = true then
      if 0 ≤ i64.wrap (t7 - 1) ∧ i64.wrap (t7 - 1) < (l0.length : Int) then
       if 0 ≤ i64.wrap (t7 - 1) ∧ i64.wrap (t7 - 1) < (l0.length : Int) then
        if decide ((t5.getD t7.toNat (0, (0, 0))).1 < i64.wrap (((l0.getD ((i64.wrap (t7 - 1)).toNat) (0, (0, 0))).1) + (((l0.getD ((i64.wrap (t7 - 1)).toNat) (0, (0, 0))).2).2))) = false then
         if 0 ≤ i64.wrap (t7 - 1) ∧ i64.wrap (t7 - 1) < (l0.length : Int) then
          (spans_joins (l0.getD ((i64.wrap (t7 - 1)).toNat) (0, (0, 0)), t5.getD t7.toNat (0, (0, 0)))).bind fun r41 =>
           if r41 = true then
            some (.inr (.inr false))
           else
            some (.inl ((l0, t5, t6, i64.wrap (t7 + 1))))
         else none
        else
         some (.inr (.inr false))
       else none
      else none
     else
      some (.inl ((l0, t5, t6, i64.wrap (t7 + 1))))
    else
     some (.inr (.inr false))
  else none
 else
  some (.inr (.inl ()))

def spans_Right : (List (Int × Int × Int)) → Option (Bool) := fun l0 =>
 (loopO spans_Right.l1 ((l0, l0, (l0.length : Int), 0))).bind fun d => match d with
 | .inl _ =>
  some true
 | .inr t2 =>
  some t2

def spans_Right.c : Callee' := mkC 193 ⟨46, 0, [], [0], (.cons (.v (.sl (.st (.pair I (.pair I I))))) .nil)⟩ [⟨46, 0, [], [2], (cB .nil)⟩] spans_Right
theorem spans_Right.q : FunQuiet spans_Right.c.F := mkFun_quiet rfl rfl
def spans_Right.ann : Ann := (.z (.seq (.z (.block (.loop ⟨46, 0, [], [0, 5, 6, 7], (.cons (.v (.sl (.st (.pair I (.pair I I))))) (.cons (.v (.sl (.st (.pair I (.pair I I))))) (cI (cI .nil))))⟩ [(.exit 0, ⟨46, 0, [], [], .nil⟩), (.ret, ⟨46, 0, [], [2], (cB .nil)⟩)]
  (.z (.seq (.cond .std .std) (.seq (.block (.z (.seq (.drw [.std, .callq [spans_odd.c], .std, .std, .std, .std, .std, .std, .std, .std, .std, .std, .std, .std, .std, .std, .std, .std, .std, .std, .std, .std, .std, .std, .std, .std, .std, .std, .std, .callq [spans_joins.c]]) (.cond (.z .std) .std)))) (.reg []))))))) (.z .std)))
theorem spans_Right.s : spans_Right.c.ok Tryz.prog := sd 46 spans_Right.ann (kc spans_odd.s (kc spans_joins.s kn)) (kc spans_odd.q (kc spans_joins.q kn)) Tryz.func193

def cards_Right : tC → Option (Bool) := fun c0 =>
 (slices_Concat_int_int ([c0.2.2.2.2.1, ([c0.2.2.2.2.2.1, c0.2.2.2.2.2.2.1, c0.2.2.2.2.2.2.2.2] : tI)] : List tI)).bind fun r15 =>
  (cards_none c0).bind fun r18 =>
   if r18 = true then
    some true
   else
    (slices_ContainsFunc_int_int r15).bind fun r21 =>
     if r21 = true then
      some false
     else
      if (c0.1 == 1) = true then
       (cards_head (c0, 76)).bind fun r27 =>
        if r27 = true then
         if ((c0.2.2.2.2.1.length : Int) == 4) = true then
          if ((c0.2.2.2.2.2.2.2.1.length : Int) == 0) = true then
           some (((c0.2.2.2.2.2.2.2.2 == 0)))
          else
           some false
         else
          some false
        else
         some false
      else
       if (c0.1 == 2) = true then
        ((
         if decide ((c0.2.2.2.2.2.2.2.1.length : Int) ≤ 3) = true then
          (spans_Right c0.2.2.2.2.2.2.2.1).bind fun r56 =>
           if r56 = true then
            if (c0.2.2.2.2.2.2.2.2 == 0) = false then
             some (((c0, ((c0.2.2.2.2.2.2.2.1.length : Int) == 3))))
            else
             some (((c0, true)))
           else
            some (((c0, false)))
         else
          some (((c0, false)))) : Option (tC × Bool)).bind fun ((c1a, c1b, c1c, c1d, c1e, c1f, c1g, c1h, c1i), runs4) =>
         (cards_head ((c1a, c1b, c1c, c1d, c1e, c1f, c1g, c1h, c1i), 120)).bind fun r70 =>
          if r70 = true then
           if runs4 = true then
            if ((c1e.length : Int) == 0) = true then
             if (c1f == 0) = true then
              some (((c1g == 0)))
             else
              some false
            else
             some false
           else
            some false
          else
           some false
       else
        some false

def cards_Right.c : Callee' := mkC 157 ⟨90, 0, [], [0], (.cons (.v (yC)) .nil)⟩ [⟨90, 0, [], [2], (cB .nil)⟩] cards_Right
theorem cards_Right.q : FunQuiet cards_Right.c.F := mkFun_quiet rfl rfl
theorem cards_Right.s : cards_Right.c.ok Tryz.prog := sd 90 (.z (.seq (.reg [.std, .std, .std, .std, .std, .std, .std, .std, .inl I, .inl (.sl I), .callq [slices_Concat_int_int.c]]) (.seq (.block (.seq (.reg [.std, .callq [cards_none.c]]) (.cond (.z .std) (.seq (.reg [.std, .callq [slices_ContainsFunc_int_int.c]]) (.cond (.z .std) (.z (.cond (.seq (.reg [.std, .callq [cards_head.c]]) .std) (.z (.cond (.join [(.norm, ⟨90, 0, [.box (cI (cI (cI (cI (.cons (.v (.sl I)) (cI (cI (.cons (.v (.sl (.st (.pair I (.pair I I))))) (cI .nil)))))))))], [1, 4], (cr 0 (cB .nil))⟩)]
  (.rq 7 spans_Right.c) (.seq (.reg [.std, .callq [cards_head.c]]) .std)) .std))))))))) (.z .std)))) (kc slices_Concat_int_int.s (kc cards_none.s (kc slices_ContainsFunc_int_int.s (kc cards_head.s (kc spans_Right.s (kc cards_head.s kn)))))) (kc slices_Concat_int_int.q (kc cards_none.q (kc slices_ContainsFunc_int_int.q (kc cards_head.q (kc spans_Right.q (kc cards_head.q kn)))))) Tryz.func157

def cards_values.l1 : ((tC × tI) × Int) → Option (((tC × tI) × Int) ⊕ (tC × tI)) := fun (((c1a, c1b, c1c, c1d, c1e, c1f, c1g, c1h, c1i), l3), t34) =>
 if decide (t34 < 3) = true then
  ((
   if decide (t34 < (c1h.length : Int)) = true then
    if 0 ≤ t34 ∧ t34 < (c1h.length : Int) then
     some (((((c1a, c1b, c1c, c1d, c1e, c1f, c1g, c1h, c1i), l3, c1h.getD t34.toNat (0, (0, 0))), t34)))
    else none
   else
    some (((((c1a, c1b, c1c, c1d, c1e, c1f, c1g, c1h, c1i), l3, 0, 0, 0), t34)))) : Option ((tC × tI × Int × Int × Int) × Int)).bind fun (((c1a, c1b, c1c, c1d, c1e, c1f, c1g, c1h, c1i), l3, r5a, r5b, r5c), t34) =>
   if roomOk (l3.length + (([r5a, r5b, r5c] : tI)).length) 8 then
    some (.inl ((((c1a, c1b, c1c, c1d, c1e, c1f, c1g, c1h, c1i), l3 ++ (([r5a, r5b, r5c] : tI))), i64.wrap (t34 + 1))))
   else none
 else
  some (.inr ((((c1a, c1b, c1c, c1d, c1e, c1f, c1g, c1h, c1i), l3))))

def cards_values : tC → Option tI := fun c0 =>
 if (c0.1 == 1) = true then
  if roomOk ((([c0.1, c0.2.1, c0.2.2.1, c0.2.2.2.1] : tI)).length + c0.2.2.2.2.1.length) 8 then
   if roomOk (((([c0.1, c0.2.1, c0.2.2.1, c0.2.2.2.1] : tI)) ++ c0.2.2.2.2.1).length + (([c0.2.2.2.2.2.1, c0.2.2.2.2.2.2.1] : tI)).length) 8 then
    some ((((([c0.1, c0.2.1, c0.2.2.1, c0.2.2.2.1] : tI)) ++ c0.2.2.2.2.1) ++ (([c0.2.2.2.2.2.1, c0.2.2.2.2.2.2.1] : tI))))
   else none
  else none
 else
  if roomOk ((([c0.1, c0.2.1, c0.2.2.1, c0.2.2.2.1] : tI)).length + (([(c0.2.2.2.2.2.2.2.1.length : Int)] : tI)).length) 8 then
   (loopO cards_values.l1 (((c0, (([c0.1, c0.2.1, c0.2.2.1, c0.2.2.2.1] : tI)) ++ (([(c0.2.2.2.2.2.2.2.1.length : Int)] : tI))), 0))).bind fun ((c1a, c1b, c1c, c1d, c1e, c1f, c1g, c1h, c1i), l3) =>
    if roomOk (l3.length + (([c1i] : tI)).length) 8 then
     some ((l3 ++ (([c1i] : tI))))
    else none
  else none

def cards_values.c : Callee' := mkC 159 ⟨63, 0, [], [0], (.cons (.v (yC)) .nil)⟩ [⟨63, 0, [], [2], (.cons (.v (.sl I)) .nil)⟩] cards_values
theorem cards_values.q : FunQuiet cards_values.c.F := mkFun_quiet rfl rfl
theorem cards_values.s : cards_values.c.ok Tryz.prog := sd 63 (.z (.seq (.reg [.std, .std, .std, .std, .std, .std, .std, .std, .obj I]) (.seq (.z (.cond (.seq (.drw [.std, .std, .std, .obj I, .std, .std, .std, .std, .inl I, .obj I]) .std) .std)) (.seq (.reg [.std, .std, .std, .std, .inl I, .obj I]) (.seq (.z (.block (.loop ⟨63, 0, [.box (cI (cI (cI (cI (.cons (.v (.sl I)) (cI (cI (.cons (.v (.sl (.st (.pair I (.pair I I))))) (cI .nil))))))))), .arr I], [1, 3, 34], (cr 0 (cr 1 (cI .nil)))⟩ [(.exit 0, ⟨63, 0, [.box (cI (cI (cI (cI (.cons (.v (.sl I)) (cI (cI (.cons (.v (.sl (.st (.pair I (.pair I I))))) (cI .nil))))))))), .arr I], [1, 3], (cr 0 (cr 1 .nil))⟩)]
  (.z (.seq (.cond .std .std) (.seq (.block (.z (.z (.join [(.norm, ⟨63, 0, [.box (cI (cI (cI (cI (.cons (.v (.sl I)) (cI (cI (.cons (.v (.sl (.st (.pair I (.pair I I))))) (cI .nil))))))))), .arr I, .box (cI (cI (cI .nil)))], [1, 3, 5, 34], (cr 0 (cr 1 (cr 2 (cI .nil))))⟩)]
  (.z (.cond (.reg []) .std)) (.reg [.std, .std, .std, .std, .std, .std, .std, .inl I, .obj I]))))) (.reg []))))))) (.seq (.reg [.std, .std, .std, .inl I, .obj I]) .std)))))) kn kn Tryz.func159

def cards_Write : tC → Option (tB × Int) := fun c0 =>
 (cards_Right c0).bind fun r7 =>
  if (!r7) = true then
   some ((([], 1)))
  else
   (cards_none c0).bind fun r10 =>
    if r10 = true then
     (mould_Pad ([], 32)).bind fun (r11, r11_2) =>
      some (((r11, r11_2)))
    else
     (cards_moulds c0.1).bind fun d => match d with
     | .inl _ =>
      (cards_values c0).bind fun r19 =>
       (mould_Write (([] : tI), r19)).bind fun (r20, r20_2) =>
        if (r20_2 != 0) = true then
         some ((([], 1)))
        else
         (mould_Pad (r20, 32)).bind fun (r26, r26_2) =>
          some (((r26, r26_2)))
     | .inr r17b =>
      (cards_values c0).bind fun r19a =>
       (mould_Write (r17b, r19a)).bind fun (r20a, r20a_2) =>
        if (r20a_2 != 0) = true then
         some ((([], 1)))
        else
         (mould_Pad (r20a, 32)).bind fun (r26a, r26a_2) =>
          some (((r26a, r26a_2)))

def cards_Write.c : Callee' := mkC 111 ⟨29, 0, [], [0], (.cons (.v (yC)) .nil)⟩ [⟨29, 0, [], [2, 3], (cS (cI .nil))⟩] cards_Write
theorem cards_Write.q : FunQuiet cards_Write.c.F := mkFun_quiet rfl rfl
theorem cards_Write.s : cards_Write.c.ok Tryz.prog := sd 29 (.z (.seq (.seq (.reg [.std, .callq [cards_Right.c]]) (.cond (.z .std) .std)) (.seq (.seq (.reg [.std, .callq [cards_none.c]]) (.cond (.seq (.reg [.callq [mould_Pad.c]]) .std) .std)) (.seq (.drw [.std, .std, .callq [cards_moulds.c], .std, .callq [cards_values.c], .callq [mould_Write.c]]) (.seq (.z (.cond (.z .std) .std)) (.seq (.reg [.std, .callq [mould_Pad.c]]) .std)))))) (kc cards_Right.s (kc cards_none.s (kc mould_Pad.s (kc cards_moulds.s (kc cards_values.s (kc mould_Write.s (kc mould_Pad.s kn))))))) (kc cards_Right.q (kc cards_none.q (kc mould_Pad.q (kc cards_moulds.q (kc cards_values.q (kc mould_Write.q (kc mould_Pad.q kn))))))) Tryz.func111

def cards_Read : tB → Option (tC × Int) := fun s0 =>
 if ((s0.length : Int) != 32) = true then
  some (((zC, 15)))
 else
  ((
   if 0 ≤ (0 : Int) ∧ (0 : Int) < (s0.length : Int) then
    (cards_moulds (i64.wrap (((s0.getD 0 0).toNat : Int)))).bind fun d => match d with
    | .inl _ =>
     some (.inl (((zC, 0, 0, 0, 0, ([] : tI), 0, 0, ([] : List (Int × Int × Int)), 0), s0)))
    | .inr r18b =>
     if r18b.isEmpty = true then
      agree (
       some (.inl (((zC, 0, 0, 0, 0, ([] : tI), 0, 0, ([] : List (Int × Int × Int)), 0), s0)))) (
       (mould_Read (r18b, s0)).bind fun (r24, r24_2) =>
        if (r24_2 != 0) = true then
         some (.inr (((zC, 15))))
        else
         (cards_card r24).bind fun r31 =>
          some (.inl (((zC, r31), s0))))
     else
      (mould_Read (r18b, s0)).bind fun (r24, r24_2) =>
       if (r24_2 != 0) = true then
        some (.inr (((zC, 15))))
       else
        (cards_card r24).bind fun r31 =>
         some (.inl (((zC, r31), s0)))
   else none) : Option (((tC × tC) × tB) ⊕ (tC × Int))).bind fun d => match d with
  | .inl (((t2a, t2b, t2c, t2d, t2e, t2f, t2g, t2h, t2i), c4a, c4b, c4c, c4d, c4e, c4f, c4g, c4h, c4i), s0) =>
   (cards_Write (c4a, c4b, c4c, c4d, c4e, c4f, c4g, c4h, c4i)).bind fun (r34, r34_2) =>
    if (r34_2 != 0) = false then
     if (!(r34 == s0)) = true then
      some (((zC, 15)))
     else
      some ((((c4a, c4b, c4c, c4d, c4e, c4f, c4g, c4h, c4i), 0)))
    else
     some (((zC, 15)))
  | .inr (((t2a, t2b, t2c, t2d, t2e, t2f, t2g, t2h, t2i), t3)) =>
   some ((((t2a, t2b, t2c, t2d, t2e, t2f, t2g, t2h, t2i), t3)))

def cards_Read.c : Callee' := mkC 108 ⟨46, 0, [], [0], (cS .nil)⟩ [⟨47, 0, [], [46, 3], (.cons (.v (yC)) (cI .nil))⟩] cards_Read
theorem cards_Read.q : FunQuiet cards_Read.c.F := mkFun_quiet rfl rfl
theorem cards_Read.s : cards_Read.c.ok Tryz.prog := sdR 46 [(2, 84)] (.z (.z (.seq (.z (.cond (.z .std) .std)) (.join [(.norm, ⟨46, 0, [.box (cI (cI (cI (cI (.cons (.v (.sl I)) (cI (cI (.cons (.v (.sl (.st (.pair I (.pair I I))))) (cI .nil))))))))), .box (cI (cI (cI (cI (.cons (.v (.sl I)) (cI (cI (.cons (.v (.sl (.st (.pair I (.pair I I))))) (cI .nil)))))))))], [0, 2, 4], (cS (cr 0 (cr 1 .nil)))⟩), (.ret, ⟨46, 0, [.box (cI (cI (cI (cI (.cons (.v (.sl I)) (cI (cI (.cons (.v (.sl (.st (.pair I (.pair I I))))) (cI .nil)))))))))], [2, 3], (cr 0 (cI .nil))⟩)]
  (.seq (.rq 3 cards_moulds.c) (.seq (.reg [.std, .obj .bool]) (.cond (.seq (.rq 2 mould_Read.c) (.seq (.z (.cond (.z .std) .std)) (.reg [.std, .callq [cards_card.c]]))) .std))) (.seq (.seq (.reg [.std, .callq [cards_Write.c]]) (.z (.cond (.z .std) .std))) (.z .std)))))) (kc cards_moulds.s (kc mould_Read.s (kc cards_card.s (kc cards_Write.s kn)))) (kc cards_moulds.q (kc mould_Read.q (kc cards_card.q (kc cards_Write.q kn)))) Tryz.func108

def deal_Deal_Card : ((((tS × (tL) × Int × Int) × Bool × Int) × tL) × Int) → Option (tC × Int) := fun (d0, node1) =>
 (deal_Deal_place (d0, node1)).bind fun (r14, r14_2, r14_3, r14_4) =>
  if (r14_4 != 0) = true then
   some (((zC, r14_4)))
  else
   (cards_Pick (r14_2, r14_3)).bind fun (r26, r26_2) =>
    if (r26_2 != 0) = true then
     some (((zC, r26_2)))
    else
     (cards_Read r26).bind fun (r34, r34_2) =>
      some (((r34, r34_2)))

def deal_Deal_Card.c : Callee' := mkC 51 ⟨37, 0, [], [0, 1], (.cons (.v (.ptr (.pair (.ptr (.pair (.ptr (.pair (.sl .str) (.pair (.map I .str) (.pair I I)))) (.pair .bool I))) (.map I .str)))) (cI .nil))⟩ [⟨38, 0, [], [37, 5], (.cons (.v (yC)) (cI .nil))⟩] deal_Deal_Card
theorem deal_Deal_Card.q : FunQuiet deal_Deal_Card.c.F := mkFun_quiet rfl rfl
theorem deal_Deal_Card.s : deal_Deal_Card.c.ok Tryz.prog := sdR 37 [(4, 84)] (.z (.seq (.rq 2 deal_Deal_place.c) (.seq (.z (.cond (.z .std) .std)) (.seq (.rq 2 cards_Pick.c) (.seq (.z (.cond (.z .std) .std)) (.seq (.reg [.std, .callq [cards_Read.c]]) .std)))))) (kc deal_Deal_place.s (kc cards_Pick.s (kc cards_Read.s kn))) (kc deal_Deal_place.q (kc cards_Pick.q (kc cards_Read.q kn))) Tryz.func51

def deal_Deal_Card_1 : (((Bool × Int) × (tL) × (Int × Int) × tS × tL) × Int) → Option (((Bool × Int) × (tL) × (Int × Int) × tS × tL) × tC × Int) := fun (((o1b, o1c), o2, (o3c, o3d), o4, o5), node1) =>
 (deal_Deal_place ((((o4, o5, o3c, o3d), o1b, o1c), o2), node1)).bind fun (r14, r14_2, r14_3, r14_4) =>
  if (r14_4 != 0) = true then
   some (((((o1b, o1c), o2, (o3c, o3d), o4, o5), zC, r14_4)))
  else
   (cards_Pick (r14_2, r14_3)).bind fun (r26, r26_2) =>
    if (r26_2 != 0) = true then
     some (((((o1b, o1c), o2, (o3c, o3d), o4, o5), zC, r26_2)))
    else
     (cards_Read r26).bind fun (r34, r34_2) =>
      some (((((o1b, o1c), o2, (o3c, o3d), o4, o5), r34, r34_2)))

def deal_Deal_Card_1.c : Callee' := mkC 51 ⟨37, 0, [.box (cr 1 (cr 2 .nil)), .box (cr 3 (cB (cI .nil))), .map I .str, .box (cr 4 (cr 5 (cI (cI .nil)))), .arr .str, .map I .str], [0, 1], (cr 0 (cI .nil))⟩ [⟨38, 6, [.box (cr 1 (cr 2 .nil)), .box (cr 3 (cB (cI .nil))), .map I .str, .box (cr 4 (cr 5 (cI (cI .nil)))), .arr .str, .map I .str], [37, 5], (.cons (.v (yC)) (cI .nil))⟩] deal_Deal_Card_1
theorem deal_Deal_Card_1.s : deal_Deal_Card_1.c.ok Tryz.prog := sdR 37 [(4, 84)] (.z (.seq (.rq 2 deal_Deal_place.c) (.seq (.z (.cond (.z .std) .std)) (.seq (.rq 2 cards_Pick.c) (.seq (.z (.cond (.z .std) .std)) (.seq (.reg [.std, .callq [cards_Read.c]]) .std)))))) (kc deal_Deal_place.s (kc cards_Pick.s (kc cards_Read.s kn))) (kc deal_Deal_place.q (kc cards_Pick.q (kc cards_Read.q kn))) Tryz.func51

def rf01_Same.l1 : (tI × tI × Int) → Option ((tI × tI × Int) ⊕ (Unit ⊕ Bool)) := fun (a0, b1, i5) =>
 if decide (i5 < (a0.length : Int)) = true then
  if 0 ≤ i5 ∧ i5 < (a0.length : Int) then
   if 0 ≤ i5 ∧ i5 < (b1.length : Int) then
    if (a0.getD i5.toNat 0 != b1.getD i5.toNat 0) = true then
     some (.inr (.inr false))
    else
     some (.inl ((a0, b1, i64.wrap (i5 + 1))))
   else none
  else none
 else
  some (.inr (.inl ()))

def rf01_Same : (tI × tI) → Option (Bool) := fun (a0, b1) =>
 if ((a0.length : Int) != (b1.length : Int)) = true then
  some false
 else
  (loopO rf01_Same.l1 ((a0, b1, 0))).bind fun d => match d with
  | .inl _ =>
   some true
  | .inr t4 =>
   some t4

def rf01_Same.c : Callee' := mkC 61 ⟨26, 0, [], [0, 1], (.cons (.v (.sl I)) (.cons (.v (.sl I)) .nil))⟩ [⟨26, 0, [], [4], (cB .nil)⟩] rf01_Same
theorem rf01_Same.q : FunQuiet rf01_Same.c.F := mkFun_quiet rfl rfl
theorem rf01_Same.s : rf01_Same.c.ok Tryz.prog := sd 26 (.z (.seq (.z (.cond (.z .std) .std)) (.seq (.z (.block (.loop ⟨26, 0, [], [0, 1, 5], (.cons (.v (.sl I)) (.cons (.v (.sl I)) (cI .nil)))⟩ [(.exit 0, ⟨26, 0, [], [], .nil⟩), (.ret, ⟨26, 0, [], [4], (cB .nil)⟩)]
  (.seq (.z (.cond .std .std)) (.seq (.block (.seq (.drw []) (.cond (.z .std) .std))) (.reg [])))))) (.z .std)))) kn kn Tryz.func61

def rf04_Same.l1 : ((List (Int × Int × Int)) × (List (Int × Int × Int)) × Int) → Option (((List (Int × Int × Int)) × (List (Int × Int × Int)) × Int) ⊕ (Unit ⊕ Bool)) := fun (a0, b1, i5) =>
 if decide (i5 < (a0.length : Int)) = true then
  if 0 ≤ i5 ∧ i5 < (a0.length : Int) then
   if 0 ≤ i5 ∧ i5 < (b1.length : Int) then
    if (!(((a0.getD i5.toNat (0, (0, 0))).1 == (b1.getD i5.toNat (0, (0, 0))).1) && ((((a0.getD i5.toNat (0, (0, 0))).2).1 == ((b1.getD i5.toNat (0, (0, 0))).2).1) && (((a0.getD i5.toNat (0, (0, 0))).2).2 == ((b1.getD i5.toNat (0, (0, 0))).2).2)))) = true then
     some (.inr (.inr false))
    else
     some (.inl ((a0, b1, i64.wrap (i5 + 1))))
   else none
  else none
 else
  some (.inr (.inl ()))

def rf04_Same : ((List (Int × Int × Int)) × List (Int × Int × Int)) → Option (Bool) := fun (a0, b1) =>
 if ((a0.length : Int) != (b1.length : Int)) = true then
  some false
 else
  (loopO rf04_Same.l1 ((a0, b1, 0))).bind fun d => match d with
  | .inl _ =>
   some true
  | .inr t4 =>
   some t4

def rf04_Same.c : Callee' := mkC 119 ⟨26, 0, [], [0, 1], (.cons (.v (.sl (.st (.pair I (.pair I I))))) (.cons (.v (.sl (.st (.pair I (.pair I I))))) .nil))⟩ [⟨26, 0, [], [4], (cB .nil)⟩] rf04_Same
theorem rf04_Same.q : FunQuiet rf04_Same.c.F := mkFun_quiet rfl rfl
theorem rf04_Same.s : rf04_Same.c.ok Tryz.prog := sd 26 (.z (.seq (.z (.cond (.z .std) .std)) (.seq (.z (.block (.loop ⟨26, 0, [], [0, 1, 5], (.cons (.v (.sl (.st (.pair I (.pair I I))))) (.cons (.v (.sl (.st (.pair I (.pair I I))))) (cI .nil)))⟩ [(.exit 0, ⟨26, 0, [], [], .nil⟩), (.ret, ⟨26, 0, [], [4], (cB .nil)⟩)]
  (.seq (.z (.cond .std .std)) (.seq (.block (.seq (.drw [.std, .std, .std, .std, .std, .std, .std, .std, .eqs 190]) (.cond (.z .std) .std))) (.reg [])))))) (.z .std)))) kn kn Tryz.func119

def rf09_Same : (tC × tC) → Option (Bool) := fun (a0, b1) =>
 if (a0.1 == b1.1) = true then
  if (a0.2.1 == b1.2.1) = true then
   if (a0.2.2.1 == b1.2.2.1) = true then
    if (a0.2.2.2.1 == b1.2.2.2.1) = true then
     (rf01_Same (a0.2.2.2.2.1, b1.2.2.2.2.1)).bind fun r36 =>
      if r36 = true then
       if (a0.2.2.2.2.2.1 == b1.2.2.2.2.2.1) = true then
        if (a0.2.2.2.2.2.2.1 == b1.2.2.2.2.2.2.1) = true then
         (rf04_Same (a0.2.2.2.2.2.2.2.1, b1.2.2.2.2.2.2.2.1)).bind fun r57 =>
          if r57 = true then
           some (((a0.2.2.2.2.2.2.2.2 == b1.2.2.2.2.2.2.2.2)))
          else
           some false
        else
         some false
       else
        some false
      else
       some false
    else
     some false
   else
    some false
  else
   some false
 else
  some false

def rf09_Same.c : Callee' := mkC 63 ⟨66, 0, [], [0, 1], (.cons (.v (yC)) (.cons (.v (yC)) .nil))⟩ [⟨66, 0, [], [4], (cB .nil)⟩] rf09_Same
theorem rf09_Same.q : FunQuiet rf09_Same.c.F := mkFun_quiet rfl rfl
def rf09_Same.ann : Ann := (.z (.seq (.reg [.std, .std, .std, .std, .std, .std, .std, .std, .std, .std, .std, .std, .std, .std, .std, .std, .std, .std, .std, .std, .std, .std, .std, .std, .std, .std, .std, .std, .std, .std, .std, .callq [rf01_Same.c], .std, .std, .std, .std, .std, .std, .std, .std, .std, .std, .std, .std, .std, .std, .std, .std, .std, .std, .std, .std, .callq [rf04_Same.c]]) .std))
theorem rf09_Same.s : rf09_Same.c.ok Tryz.prog := sd 66 rf09_Same.ann (kc rf01_Same.s (kc rf04_Same.s kn)) (kc rf01_Same.q (kc rf04_Same.q kn)) Tryz.func63

def rf09_small : Int → Option (Bool) := fun n0 =>
 if decide (n0 ≥ 0) = true then
  some ((decide (n0 ≤ 65535)))
 else
  some false

def rf09_small.c : Callee' := mkC 120 ⟨9, 0, [], [0], (cI .nil)⟩ [⟨9, 0, [], [2], (cB .nil)⟩] rf09_small
theorem rf09_small.q : FunQuiet rf09_small.c.F := mkFun_quiet rfl rfl
theorem rf09_small.s : rf09_small.c.ok Tryz.prog := sd 9 (.z (.z .std)) kn kn Tryz.func120

def rf04_Right.l1 : ((List (Int × Int × Int)) × Int) → Option (((List (Int × Int × Int)) × Int) ⊕ (Unit ⊕ Bool)) := fun (l0, k3) =>
 if decide (k3 < (l0.length : Int)) = true then
  if 0 ≤ k3 ∧ k3 < (l0.length : Int) then
   if decide ((l0.getD k3.toNat (0, (0, 0))).1 < 0) = false then
    if decide ((l0.getD k3.toNat (0, (0, 0))).1 ≥ 65536) = false then
     if decide (((l0.getD k3.toNat (0, (0, 0))).2).1 < 1) = false then
      if decide (((l0.getD k3.toNat (0, (0, 0))).2).1 ≥ 65536) = false then
       if decide (((l0.getD k3.toNat (0, (0, 0))).2).2 < 1) = false then
        if decide (((l0.getD k3.toNat (0, (0, 0))).2).2 ≥ 65536) = false then
         if decide (i64.wrap (((l0.getD k3.toNat (0, (0, 0))).1) + (((l0.getD k3.toNat (0, (0, 0))).2).2)) > 65536) = false then
          if decide (i64.wrap ((((l0.getD k3.toNat (0, (0, 0))).2).1) + (((l0.getD k3.toNat (0, (0, 0))).2).2)) > 65536) = true then
           some (.inr (.inr false))
          else
           if (k3 == 0) = true then
            some (.inl ((l0, i64.wrap (k3 + 1))))
           else
            if 0 ≤ i64.wrap (k3 - 1) ∧ i64.wrap (k3 - 1) < (l0.length : Int) then
             if decide ((l0.getD k3.toNat (0, (0, 0))).1 < i64.wrap (((l0.getD ((i64.wrap (k3 - 1)).toNat) (0, (0, 0))).1) + (((l0.getD ((i64.wrap (k3 - 1)).toNat) (0, (0, 0))).2).2))) = false then
              if ((l0.getD k3.toNat (0, (0, 0))).1 == i64.wrap (((l0.getD ((i64.wrap (k3 - 1)).toNat) (0, (0, 0))).1) + (((l0.getD ((i64.wrap (k3 - 1)).toNat) (0, (0, 0))).2).2))) = true then
               if (((l0.getD k3.toNat (0, (0, 0))).2).1 == i64.wrap ((((l0.getD ((i64.wrap (k3 - 1)).toNat) (0, (0, 0))).2).1) + (((l0.getD ((i64.wrap (k3 - 1)).toNat) (0, (0, 0))).2).2))) = true then
                some (.inr (.inr false))
               else
                some (.inl ((l0, i64.wrap (k3 + 1))))
              else
               some (.inl ((l0, i64.wrap (k3 + 1))))
             else
              some (.inr (.inr false))
            else none
         else
          some (.inr (.inr false))
        else
         some (.inr (.inr false))
       else
        some (.inr (.inr false))
      else
       some (.inr (.inr false))
     else
      some (.inr (.inr false))
    else
     some (.inr (.inr false))
   else
    some (.inr (.inr false))
  else none
 else
  some (.inr (.inl ()))

def rf04_Right : (List (Int × Int × Int)) → Option (Bool) := fun l0 =>
 (loopO rf04_Right.l1 ((l0, 0))).bind fun d => match d with
 | .inl _ =>
  some true
 | .inr t2 =>
  some t2

def rf04_Right.c : Callee' := mkC 121 ⟨95, 0, [], [0], (.cons (.v (.sl (.st (.pair I (.pair I I))))) .nil)⟩ [⟨95, 0, [], [2], (cB .nil)⟩] rf04_Right
theorem rf04_Right.q : FunQuiet rf04_Right.c.F := mkFun_quiet rfl rfl
theorem rf04_Right.s : rf04_Right.c.ok Tryz.prog := sd 95 (.z (.seq (.z (.block (.loop ⟨95, 0, [], [0, 3], (.cons (.v (.sl (.st (.pair I (.pair I I))))) (cI .nil))⟩ [(.exit 0, ⟨95, 0, [], [], .nil⟩), (.ret, ⟨95, 0, [], [2], (cB .nil)⟩)]
  (.seq (.z (.cond .std .std)) (.seq (.block (.z (.seq (.z (.cond (.z .std) .std)) (.seq (.z (.cond .std .std)) (.z (.z (.cond (.z .std) .std))))))) (.reg [])))))) (.z .std))) kn kn Tryz.func121

def rf09_Right.l1 : (tC × Int) → Option ((tC × Int) ⊕ (tC ⊕ Bool)) := fun ((c1a, c1b, c1c, c1d, c1e, c1f, c1g, c1h, c1i), i3) =>
 if decide (i3 < (c1e.length : Int)) = true then
  if 0 ≤ i3 ∧ i3 < (c1e.length : Int) then
   (rf09_small (c1e.getD i3.toNat 0)).bind fun r45 =>
    if (!r45) = true then
     some (.inr (.inr false))
    else
     some (.inl (((c1a, c1b, c1c, c1d, c1e, c1f, c1g, c1h, c1i), i64.wrap (i3 + 1))))
  else none
 else
  some (.inr (.inl ((c1a, c1b, c1c, c1d, c1e, c1f, c1g, c1h, c1i))))

def rf09_Right : tC → Option (Bool) := fun c0 =>
 (rf09_Same (c0, 0, 0, 0, 0, ([] : tI), 0, 0, ([] : List (Int × Int × Int)), 0)).bind fun r6 =>
  if r6 = true then
   some true
  else
   ((
    if (c0.2.1 != 1) = true then
     if (c0.2.1 != 2) = false then
      if decide (c0.2.2.1 < 1) = false then
       if decide (c0.2.2.1 > 200) = false then
        if decide (c0.2.2.2.1 < 0) = true then
         some (.inr false)
        else
         some (.inl c0)
       else
        some (.inr false)
      else
       some (.inr false)
     else
      some (.inr false)
    else
     if decide (c0.2.2.1 < 1) = false then
      if decide (c0.2.2.1 > 200) = false then
       if decide (c0.2.2.2.1 < 0) = true then
        some (.inr false)
       else
        some (.inl c0)
      else
       some (.inr false)
     else
      some (.inr false)) : Option (tC ⊕ Bool)).bind fun d => match d with
   | .inl (c1a, c1b, c1c, c1d, c1e, c1f, c1g, c1h, c1i) =>
    if (c1a == 1) = true then
     (loopO rf09_Right.l1 (((c1a, c1b, c1c, c1d, c1e, c1f, c1g, c1h, c1i), 0))).bind fun d => match d with
     | .inl (c1a, c1b, c1c, c1d, c1e, c1f, c1g, c1h, c1i) =>
      if decide (c1d ≤ 9728) = true then
       if ((c1e.length : Int) == 4) = true then
        (rf09_small c1f).bind fun r59 =>
         if r59 = true then
          (rf09_small c1g).bind fun r64 =>
           if r64 = true then
            if ((c1h.length : Int) == 0) = true then
             some (((c1i == 0)))
            else
             some false
           else
            some false
         else
          some false
       else
        some false
      else
       some false
     | .inr t2 =>
      some t2
    else
     if (c1a == 2) = true then
      if decide (c1d ≤ 15360) = true then
       if ((c1e.length : Int) == 0) = true then
        if (c1f == 0) = true then
         if (c1g == 0) = true then
          if decide ((c1h.length : Int) ≤ 3) = true then
           (rf04_Right c1h).bind fun r110 =>
            if r110 = true then
             (rf09_small c1i).bind fun r115 =>
              if r115 = true then
               if (c1i == 0) = false then
                some ((((c1h.length : Int) == 3)))
               else
                some true
              else
               some false
            else
             some false
          else
           some false
         else
          some false
        else
         some false
       else
        some false
      else
       some false
     else
      some false
   | .inr t2 =>
    some t2

def rf09_Right.c : Callee' := mkC 64 ⟨128, 0, [], [0], (.cons (.v (yC)) .nil)⟩ [⟨128, 0, [], [2], (cB .nil)⟩] rf09_Right
theorem rf09_Right.q : FunQuiet rf09_Right.c.F := mkFun_quiet rfl rfl
def rf09_Right.ann : Ann := (.z (.seq (.seq (.rq 2 rf09_Same.c) (.cond (.z .std) .std)) (.join [(.norm, ⟨128, 0, [.box (cI (cI (cI (cI (.cons (.v (.sl I)) (cI (cI (.cons (.v (.sl (.st (.pair I (.pair I I))))) (cI .nil)))))))))], [1], (cr 0 .nil)⟩), (.ret, ⟨128, 0, [], [2], (cB .nil)⟩)]
  (.z (.cond (.z .std) .std)) (.seq (.z (.cond (.seq (.z (.block (.loop ⟨128, 0, [.box (cI (cI (cI (cI (.cons (.v (.sl I)) (cI (cI (.cons (.v (.sl (.st (.pair I (.pair I I))))) (cI .nil)))))))))], [1, 3], (cr 0 (cI .nil))⟩ [(.exit 0, ⟨128, 0, [.box (cI (cI (cI (cI (.cons (.v (.sl I)) (cI (cI (.cons (.v (.sl (.st (.pair I (.pair I I))))) (cI .nil)))))))))], [1], (cr 0 .nil)⟩), (.ret, ⟨128, 0, [], [2], (cB .nil)⟩)]
  (.seq (.z (.cond .std .std)) (.seq (.block (.seq (.rq 5 rf09_small.c) (.cond (.z .std) .std))) (.reg [])))))) (.seq (.reg [.std, .std, .std, .std, .std, .std, .std, .std, .std, .std, .std, .std, .callq [rf09_small.c], .std, .std, .std, .std, .callq [rf09_small.c]]) .std)) .std)) (.seq (.reg [.std, .std, .std, .std, .std, .std, .std, .std, .std, .std, .std, .std, .std, .std, .std, .std, .std, .std, .std, .std, .std, .std, .std, .std, .std, .std, .std, .std, .std, .std, .std, .std, .std, .callq [rf04_Right.c], .std, .std, .std, .std, .callq [rf09_small.c]]) .std)))))
theorem rf09_Right.s : rf09_Right.c.ok Tryz.prog := sd 128 rf09_Right.ann (kc rf09_Same.s (kc rf09_small.s (kc rf09_small.s (kc rf09_small.s (kc rf04_Right.s (kc rf09_small.s kn)))))) (kc rf09_Same.q (kc rf09_small.q (kc rf09_small.q (kc rf09_small.q (kc rf04_Right.q (kc rf09_small.q kn)))))) Tryz.func64

def rf09_bytes.l1 : (tI × Int × tI × Int) → Option ((tI × Int × tI × Int) ⊕ (tI × tI)) := fun (w5, width0, l1, i6) =>
 if decide (i6 < (l1.length : Int)) = true then
  if roomOk (w5.length + (([width0] : tI)).length) 8 then
   some (.inl ((w5 ++ (([width0] : tI)), width0, l1, i64.wrap (i6 + 1))))
  else none
 else
  some (.inr (((w5, l1))))

def rf09_bytes : (Int × tI) → Option tB := fun (width0, l1) =>
 (loopO rf09_bytes.l1 (([], width0, l1, 0))).bind fun (w5, l1) =>
  (rf01_Write (w5, l1)).bind fun (r22, r22_2) =>
   some r22

def rf09_bytes.c : Callee' := mkC 195 ⟨26, 0, [], [0, 1], (cI (.cons (.v (.sl I)) .nil))⟩ [⟨26, 0, [], [4], (cS .nil)⟩] rf09_bytes
theorem rf09_bytes.q : FunQuiet rf09_bytes.c.F := mkFun_quiet rfl rfl
theorem rf09_bytes.s : rf09_bytes.c.ok Tryz.prog := sd 26 (.z (.z (.seq (.z (.block (.loop ⟨26, 0, [.arr I], [0, 1, 5, 6], (cI (.cons (.v (.sl I)) (cr 0 (cI .nil))))⟩ [(.exit 0, ⟨26, 0, [.arr I], [1, 5], (.cons (.v (.sl I)) (cr 0 .nil))⟩)]
  (.seq (.z (.cond .std .std)) (.seq (.block (.reg [.std, .std, .inl I, .obj I])) (.reg [])))))) (.seq (.rq 2 rf01_Write.c) (.z .std))))) (kc rf01_Write.s kn) (kc rf01_Write.q kn) Tryz.func195

def rf09_Write.l1 : (tC × tB × Int) → Option ((tC × tB × Int) ⊕ (tC × tB)) := fun ((c1a, c1b, c1c, c1d, c1e, c1f, c1g, c1h, c1i), s4, i5) =>
 if decide (i5 < 3) = true then
  ((
   if decide (i5 < (c1h.length : Int)) = true then
    if 0 ≤ i5 ∧ i5 < (c1h.length : Int) then
     some (((((c1a, c1b, c1c, c1d, c1e, c1f, c1g, c1h, c1i), c1h.getD i5.toNat (0, (0, 0))), s4, i5)))
    else none
   else
    some (((((c1a, c1b, c1c, c1d, c1e, c1f, c1g, c1h, c1i), 0, 0, 0), s4, i5)))) : Option ((tC × Int × Int × Int) × tB × Int)).bind fun (((c1a, c1b, c1c, c1d, c1e, c1f, c1g, c1h, c1i), r6a, r6b, r6c), s4, i5) =>
   (rf09_bytes (2, ([r6a, r6b, r6c] : tI))).bind fun r76 =>
    if s4.length + r76.length ≤ 9223372036854775807 then
     some (.inl (((c1a, c1b, c1c, c1d, c1e, c1f, c1g, c1h, c1i), s4 ++ r76, i64.wrap (i5 + 1))))
    else none
 else
  some (.inr ((((c1a, c1b, c1c, c1d, c1e, c1f, c1g, c1h, c1i), s4))))

def rf09_Write : tC → Option (tB × Int) := fun c0 =>
 (rf09_Right c0).bind fun r8 =>
  if (!r8) = true then
   some ((([], 1)))
  else
   ((
    if (c0.1 != 0) = true then
     (rf09_bytes (1, ([c0.1, c0.2.1] : tI))).bind fun r18 =>
      (rf09_bytes (2, ([c0.2.2.1] : tI))).bind fun r22 =>
       if r18.length + r22.length ≤ 9223372036854775807 then
        (rf09_bytes (4, ([c0.2.2.2.1] : tI))).bind fun r27 =>
         if (r18 ++ r22).length + r27.length ≤ 9223372036854775807 then
          some (((c0, (r18 ++ r22) ++ r27)))
         else none
       else none
    else
     some (((c0, [])))) : Option (tC × tB)).bind fun ((c1a, c1b, c1c, c1d, c1e, c1f, c1g, c1h, c1i), s4) =>
    ((
     if (c1a == 1) = true then
      (rf09_bytes (2, c1e)).bind fun r35 =>
       (rf09_bytes (2, ([c1f, c1g] : tI))).bind fun r41 =>
        if r35.length + r41.length ≤ 9223372036854775807 then
         if s4.length + (r35 ++ r41).length ≤ 9223372036854775807 then
          some ((((c1a, c1b, c1c, c1d, c1e, c1f, c1g, c1h, c1i), s4 ++ (r35 ++ r41))))
         else none
        else none
     else
      some ((((c1a, c1b, c1c, c1d, c1e, c1f, c1g, c1h, c1i), s4)))) : Option (tC × tB)).bind fun ((c1a, c1b, c1c, c1d, c1e, c1f, c1g, c1h, c1i), s4) =>
     ((
      if (c1a == 2) = true then
       (rf09_bytes (1, ([(c1h.length : Int)] : tI))).bind fun r52 =>
        if s4.length + r52.length ≤ 9223372036854775807 then
         (loopO rf09_Write.l1 (((c1a, c1b, c1c, c1d, c1e, c1f, c1g, c1h, c1i), s4 ++ r52, 0))).bind fun ((c1a, c1b, c1c, c1d, c1e, c1f, c1g, c1h, c1i), s4) =>
          (rf09_bytes (2, ([c1i] : tI))).bind fun r82 =>
           if s4.length + r82.length ≤ 9223372036854775807 then
            some ((s4 ++ r82))
           else none
        else none
      else
       some s4) : Option tB).bind fun s4 =>
      (rf01_Zeros (i64.wrap (32 - (s4.length : Int)))).bind fun r88 =>
       if s4.length + r88.length ≤ 9223372036854775807 then
        some (((s4 ++ r88, 0)))
       else none

def rf09_Write.c : Callee' := mkC 162 ⟨90, 0, [], [0], (.cons (.v (yC)) .nil)⟩ [⟨90, 0, [], [2, 3], (cS (cI .nil))⟩] rf09_Write
theorem rf09_Write.q : FunQuiet rf09_Write.c.F := mkFun_quiet rfl rfl
theorem rf09_Write.s : rf09_Write.c.ok Tryz.prog := sd 90 (.z (.seq (.seq (.reg [.std, .callq [rf09_Right.c]]) (.cond (.z .std) .std)) (.z (.join [(.norm, ⟨90, 0, [.box (cI (cI (cI (cI (.cons (.v (.sl I)) (cI (cI (.cons (.v (.sl (.st (.pair I (.pair I I))))) (cI .nil)))))))))], [1, 4], (cr 0 (cS .nil))⟩)]
  (.z (.cond (.drw [.std, .std, .std, .std, .inl I, .callq [rf09_bytes.c], .std, .std, .inl I, .callq [rf09_bytes.c], .std, .std, .std, .inl I, .callq [rf09_bytes.c]]) .std)) (.join [(.norm, ⟨90, 0, [.box (cI (cI (cI (cI (.cons (.v (.sl I)) (cI (cI (.cons (.v (.sl (.st (.pair I (.pair I I))))) (cI .nil)))))))))], [1, 4], (cr 0 (cS .nil))⟩)]
  (.z (.cond (.drw [.std, .std, .std, .callq [rf09_bytes.c], .std, .std, .std, .std, .inl I, .callq [rf09_bytes.c]]) .std)) (.join [(.norm, ⟨90, 0, [], [4], (cS .nil)⟩)]
  (.z (.cond (.seq (.reg [.std, .std, .std, .std, .inl I, .callq [rf09_bytes.c]]) (.seq (.z (.block (.loop ⟨90, 0, [.box (cI (cI (cI (cI (.cons (.v (.sl I)) (cI (cI (.cons (.v (.sl (.st (.pair I (.pair I I))))) (cI .nil)))))))))], [1, 4, 5], (cr 0 (cS (cI .nil)))⟩ [(.exit 0, ⟨90, 0, [.box (cI (cI (cI (cI (.cons (.v (.sl I)) (cI (cI (.cons (.v (.sl (.st (.pair I (.pair I I))))) (cI .nil)))))))))], [1, 4], (cr 0 (cS .nil))⟩)]
  (.seq (.z (.cond .std .std)) (.seq (.block (.z (.join [(.norm, ⟨90, 0, [.box (cI (cI (cI (cI (.cons (.v (.sl I)) (cI (cI (.cons (.v (.sl (.st (.pair I (.pair I I))))) (cI .nil))))))))), .box (cI (cI (cI .nil)))], [1, 4, 5, 6], (cr 0 (cS (cI (cr 1 .nil))))⟩)]
  (.z (.cond (.reg []) .std)) (.reg [.std, .std, .std, .std, .std, .std, .std, .inl I, .callq [rf09_bytes.c]])))) (.reg [])))))) (.reg [.std, .std, .std, .inl I, .callq [rf09_bytes.c]]))) .std)) (.seq (.rq 4 rf01_Zeros.c) .std))))))) (kc rf09_Right.s (kc rf09_bytes.s (kc rf09_bytes.s (kc rf09_bytes.s (kc rf09_bytes.s (kc rf09_bytes.s (kc rf09_bytes.s (kc rf09_bytes.s (kc rf09_bytes.s (kc rf01_Zeros.s kn)))))))))) (kc rf09_Right.q (kc rf09_bytes.q (kc rf09_bytes.q (kc rf09_bytes.q (kc rf09_bytes.q (kc rf09_bytes.q (kc rf09_bytes.q (kc rf09_bytes.q (kc rf09_bytes.q (kc rf01_Zeros.q kn)))))))))) Tryz.func162

def rf09_Read.l1 : ((tC × (Int × Int × Int × Int × tI × Int × Int × Int) × List (Int × Int × Int)) × tB × tI × Int) → Option (((tC × (Int × Int × Int × Int × tI × Int × Int × Int) × List (Int × Int × Int)) × tB × tI × Int) ⊕ ((tC × (Int × Int × Int × Int × tI × Int × Int × Int) × List (Int × Int × Int)) × tB × tI)) := fun (((t2a, t2b, t2c, t2d, t2e, t2f, t2g, t2h, t2i), (c4a, c4b, c4c, c4d, c4e, c4f, c4g, c4i), o2), s0, n9, i11) =>
 if 0 ≤ (0 : Int) ∧ (0 : Int) < (n9.length : Int) then
  if decide (i11 < n9.getD 0 0) = true then
   if decide (i11 < 3) = true then
    if 0 ≤ i64.wrap (1 + (i64.wrap (3 * i11))) ∧ i64.wrap (1 + (i64.wrap (3 * i11))) < (n9.length : Int) then
     if 0 ≤ i64.wrap (2 + (i64.wrap (3 * i11))) ∧ i64.wrap (2 + (i64.wrap (3 * i11))) < (n9.length : Int) then
      if 0 ≤ i64.wrap (3 + (i64.wrap (3 * i11))) ∧ i64.wrap (3 + (i64.wrap (3 * i11))) < (n9.length : Int) then
       if roomOk (o2.length + (([(n9.getD ((i64.wrap (1 + (i64.wrap (3 * i11)))).toNat) 0, n9.getD ((i64.wrap (2 + (i64.wrap (3 * i11)))).toNat) 0, n9.getD ((i64.wrap (3 + (i64.wrap (3 * i11)))).toNat) 0)] : List (Int × Int × Int))).length) 24 then
        some (.inl ((((t2a, t2b, t2c, t2d, t2e, t2f, t2g, t2h, t2i), (c4a, c4b, c4c, c4d, c4e, c4f, c4g, c4i), o2 ++ (([(n9.getD ((i64.wrap (1 + (i64.wrap (3 * i11)))).toNat) 0, n9.getD ((i64.wrap (2 + (i64.wrap (3 * i11)))).toNat) 0, n9.getD ((i64.wrap (3 + (i64.wrap (3 * i11)))).toNat) 0)] : List (Int × Int × Int)))), s0, n9, i64.wrap (i11 + 1))))
       else none
      else none
     else none
    else none
   else
    some (.inr (((((t2a, t2b, t2c, t2d, t2e, t2f, t2g, t2h, t2i), (c4a, c4b, c4c, c4d, c4e, c4f, c4g, c4i), o2), s0, n9))))
  else
   some (.inr (((((t2a, t2b, t2c, t2d, t2e, t2f, t2g, t2h, t2i), (c4a, c4b, c4c, c4d, c4e, c4f, c4g, c4i), o2), s0, n9))))
 else none

def rf09_Read : tB → Option (tC × Int) := fun s0 =>
 if ((s0.length : Int) != 32) = true then
  some (((zC, 15)))
 else
  (rf01_Read (([1, 1, 2, 4] : tI), s0)).bind fun (r21, r21_2) =>
   ((
    if 0 ≤ (0 : Int) ∧ (0 : Int) < (r21.length : Int) then
     if (r21.getD 0 0 != 0) = true then
      if 0 ≤ (0 : Int) ∧ (0 : Int) < (r21.length : Int) then
       if 0 ≤ (1 : Int) ∧ (1 : Int) < (r21.length : Int) then
        if 0 ≤ (2 : Int) ∧ (2 : Int) < (r21.length : Int) then
         if 0 ≤ (3 : Int) ∧ (3 : Int) < (r21.length : Int) then
          some ((((zC, (r21.getD 0 0, r21.getD 1 0, r21.getD 2 0, r21.getD 3 0, ([] : tI), 0, 0, 0), []), s0, r21)))
         else none
        else none
       else none
      else none
     else
      some ((((zC, (0, 0, 0, 0, ([] : tI), 0, 0, 0), []), s0, r21)))
    else none) : Option ((tC × (Int × Int × Int × Int × tI × Int × Int × Int) × List (Int × Int × Int)) × tB × tI)).bind fun (((t2a, t2b, t2c, t2d, t2e, t2f, t2g, t2h, t2i), (c4a, c4b, c4c, c4d, c4e, c4f, c4g, c4i), o2), s0, h5) =>
    ((
     if 0 ≤ (0 : Int) ∧ (0 : Int) < (h5.length : Int) then
      if (h5.getD 0 0 == 1) = true then
       if 0 ≤ (8 : Int) ∧ (8 : Int) ≤ (s0.length : Int) then
        (rf01_Read (([2, 2, 2, 2, 2, 2] : tI), s0.drop 8)).bind fun (r52, r52_2) =>
         if 0 ≤ (4 : Int) ∧ (4 : Int) ≤ (r52.length : Int) then
          if 0 ≤ (4 : Int) ∧ (4 : Int) < (r52.length : Int) then
           if 0 ≤ (5 : Int) ∧ (5 : Int) < (r52.length : Int) then
            some (((((t2a, t2b, t2c, t2d, t2e, t2f, t2g, t2h, t2i), (c4a, c4b, c4c, c4d, r52.take 4, r52.getD 4 0, r52.getD 5 0, c4i), o2), s0, h5)))
           else none
          else none
         else none
       else none
      else
       some (((((t2a, t2b, t2c, t2d, t2e, t2f, t2g, t2h, t2i), (c4a, c4b, c4c, c4d, c4e, c4f, c4g, c4i), o2), s0, h5)))
     else none) : Option ((tC × (Int × Int × Int × Int × tI × Int × Int × Int) × List (Int × Int × Int)) × tB × tI)).bind fun (((t2a, t2b, t2c, t2d, t2e, t2f, t2g, t2h, t2i), (c4a, c4b, c4c, c4d, c4e, c4f, c4g, c4i), o2), s0, h5) =>
     ((
      if 0 ≤ (0 : Int) ∧ (0 : Int) < (h5.length : Int) then
       if (h5.getD 0 0 == 2) = true then
        if 0 ≤ (8 : Int) ∧ (8 : Int) ≤ (s0.length : Int) then
         (rf01_Read (([1, 2, 2, 2, 2, 2, 2, 2, 2, 2, 2] : tI), s0.drop 8)).bind fun (r74, r74_2) =>
          (loopO rf09_Read.l1 ((((t2a, t2b, t2c, t2d, t2e, t2f, t2g, t2h, t2i), (c4a, c4b, c4c, c4d, c4e, c4f, c4g, c4i), o2), s0, r74, 0))).bind fun (((t2a, t2b, t2c, t2d, t2e, t2f, t2g, t2h, t2i), (c4a, c4b, c4c, c4d, c4e, c4f, c4g, c4i), o2), s0, n9) =>
           if 0 ≤ (10 : Int) ∧ (10 : Int) < (n9.length : Int) then
            some (((((t2a, t2b, t2c, t2d, t2e, t2f, t2g, t2h, t2i), (c4a, c4b, c4c, c4d, c4e, c4f, c4g, n9.getD 10 0), o2), s0)))
           else none
        else none
       else
        some (((((t2a, t2b, t2c, t2d, t2e, t2f, t2g, t2h, t2i), (c4a, c4b, c4c, c4d, c4e, c4f, c4g, c4i), o2), s0)))
      else none) : Option ((tC × (Int × Int × Int × Int × tI × Int × Int × Int) × List (Int × Int × Int)) × tB)).bind fun (((t2a, t2b, t2c, t2d, t2e, t2f, t2g, t2h, t2i), (c4a, c4b, c4c, c4d, c4e, c4f, c4g, c4i), o2), s0) =>
      (rf09_Write (c4a, c4b, c4c, c4d, c4e, c4f, c4g, o2, c4i)).bind fun (r118, r118_2) =>
       if (r118_2 != 0) = false then
        if (!(r118 == s0)) = true then
         some (((zC, 15)))
        else
         some ((((c4a, c4b, c4c, c4d, c4e, c4f, c4g, o2, c4i), 0)))
       else
        some (((zC, 15)))

def rf09_Read.c : Callee' := mkC 161 ⟨130, 0, [], [0], (cS .nil)⟩ [⟨131, 0, [], [130, 3], (.cons (.v (yC)) (cI .nil))⟩] rf09_Read
theorem rf09_Read.q : FunQuiet rf09_Read.c.F := mkFun_quiet rfl rfl
theorem rf09_Read.s : rf09_Read.c.ok Tryz.prog := sdR 130 [(2, 84)] (.z (.seq (.z (.cond (.z .std) .std)) (.z (.seq (.reg [.inl I, .std, .callq [rf01_Read.c]]) (.join [(.norm, ⟨130, 0, [.box (cI (cI (cI (cI (.cons (.v (.sl I)) (cI (cI (.cons (.v (.sl (.st (.pair I (.pair I I))))) (cI .nil))))))))), .box (cI (cI (cI (cI (.cons (.v (.sl I)) (cI (cI (cr 2 (cI .nil))))))))), .arr (.st (.pair I (.pair I I)))], [0, 2, 4, 5], (cS (cr 0 (cr 1 (.cons (.v (.sl I)) .nil))))⟩)]
  (.z (.cond (.z (.z (.z (.reg [])))) .std)) (.join [(.norm, ⟨130, 0, [.box (cI (cI (cI (cI (.cons (.v (.sl I)) (cI (cI (.cons (.v (.sl (.st (.pair I (.pair I I))))) (cI .nil))))))))), .box (cI (cI (cI (cI (.cons (.v (.sl I)) (cI (cI (cr 2 (cI .nil))))))))), .arr (.st (.pair I (.pair I I)))], [0, 2, 4, 5], (cS (cr 0 (cr 1 (.cons (.v (.sl I)) .nil))))⟩)]
  (.z (.cond (.seq (.reg [.inl I, .std, .std, .callq [rf01_Read.c]]) (.z (.z (.reg [])))) .std)) (.join [(.norm, ⟨130, 0, [.box (cI (cI (cI (cI (.cons (.v (.sl I)) (cI (cI (.cons (.v (.sl (.st (.pair I (.pair I I))))) (cI .nil))))))))), .box (cI (cI (cI (cI (.cons (.v (.sl I)) (cI (cI (cr 2 (cI .nil))))))))), .arr (.st (.pair I (.pair I I)))], [0, 2, 4], (cS (cr 0 (cr 1 .nil)))⟩)]
  (.z (.cond (.seq (.reg [.inl I, .std, .std, .callq [rf01_Read.c]]) (.seq (.z (.block (.loop ⟨130, 0, [.box (cI (cI (cI (cI (.cons (.v (.sl I)) (cI (cI (.cons (.v (.sl (.st (.pair I (.pair I I))))) (cI .nil))))))))), .box (cI (cI (cI (cI (.cons (.v (.sl I)) (cI (cI (cr 2 (cI .nil))))))))), .arr (.st (.pair I (.pair I I)))], [0, 2, 4, 9, 11], (cS (cr 0 (cr 1 (.cons (.v (.sl I)) (cI .nil)))))⟩ [(.exit 0, ⟨130, 0, [.box (cI (cI (cI (cI (.cons (.v (.sl I)) (cI (cI (.cons (.v (.sl (.st (.pair I (.pair I I))))) (cI .nil))))))))), .box (cI (cI (cI (cI (.cons (.v (.sl I)) (cI (cI (cr 2 (cI .nil))))))))), .arr (.st (.pair I (.pair I I)))], [0, 2, 4, 9], (cS (cr 0 (cr 1 (.cons (.v (.sl I)) .nil))))⟩)]
  (.seq (.z (.cond .std .std)) (.seq (.block (.drw [.std, .std, .std, .std, .std, .std, .std, .std, .std, .std, .std, .std, .std, .std, .std, .std, .std, .std, .std, .std, .std, .inl (.st (.pair I (.pair I I))), .obj (.st (.pair I (.pair I I)))])) (.reg [])))))) (.reg []))) .std)) (.seq (.reg [.std, .callq [rf09_Write.c]]) (.seq (.z (.cond (.z .std) .std)) (.z .std)))))))))) (kc rf01_Read.s (kc rf01_Read.s (kc rf01_Read.s (kc rf09_Write.s kn)))) (kc rf01_Read.q (kc rf01_Read.q (kc rf01_Read.q (kc rf09_Write.q kn)))) Tryz.func161

def rf12_Deal_Card : ((tS × tS) × Int) → Option (tC × Int) := fun (d0, node1) =>
 if decide (node1 < 0) = false then
  if decide (node1 ≥ 32) = true then
   some (((zC, 5)))
  else
   if 0 ≤ i64.wrap (43 + (i64.wrap (Int.tdiv node1 4))) ∧ i64.wrap (43 + (i64.wrap (Int.tdiv node1 4))) < (d0.2.length : Int) then
    if 0 ≤ i64.wrap (32 * (Int.tmod node1 4)) ∧ i64.wrap (32 * (Int.tmod node1 4)) ≤ i64.wrap ((i64.wrap (32 * (Int.tmod node1 4))) + 32) ∧ i64.wrap ((i64.wrap (32 * (Int.tmod node1 4))) + 32) ≤ ((d0.2.getD ((i64.wrap (43 + (i64.wrap (Int.tdiv node1 4)))).toNat) []).length : Int) then
     (rf09_Read (((d0.2.getD ((i64.wrap (43 + (i64.wrap (Int.tdiv node1 4)))).toNat) []).take (i64.wrap ((i64.wrap (32 * (Int.tmod node1 4))) + 32)).toNat).drop (i64.wrap (32 * (Int.tmod node1 4))).toNat)).bind fun (r33, r33_2) =>
      some (((r33, r33_2)))
    else none
   else none
 else
  some (((zC, 5)))

def rf12_Deal_Card.c : Callee' := mkC 115 ⟨38, 0, [], [0, 1], (.cons (.v (.ptr (.pair (.sl .str) (.sl .str)))) (cI .nil))⟩ [⟨39, 0, [], [38, 5], (.cons (.v (yC)) (cI .nil))⟩] rf12_Deal_Card
theorem rf12_Deal_Card.q : FunQuiet rf12_Deal_Card.c.F := mkFun_quiet rfl rfl
theorem rf12_Deal_Card.s : rf12_Deal_Card.c.ok Tryz.prog := sdR 38 [(4, 84)] (.z (.seq (.z (.cond (.z .std) .std)) (.z (.seq (.rq 13 rf09_Read.c) (.z .std))))) (kc rf09_Read.s kn) (kc rf09_Read.q kn) Tryz.func115

def rf12_Deal_Card_1 : ((tS × tS) × Int) → Option ((tS × tS) × tC × Int) := fun ((o1, o2), node1) =>
 if decide (node1 < 0) = false then
  if decide (node1 ≥ 32) = true then
   some ((((o1, o2), zC, 5)))
  else
   if 0 ≤ i64.wrap (43 + (i64.wrap (Int.tdiv node1 4))) ∧ i64.wrap (43 + (i64.wrap (Int.tdiv node1 4))) < (o2.length : Int) then
    if 0 ≤ i64.wrap (32 * (Int.tmod node1 4)) ∧ i64.wrap (32 * (Int.tmod node1 4)) ≤ i64.wrap ((i64.wrap (32 * (Int.tmod node1 4))) + 32) ∧ i64.wrap ((i64.wrap (32 * (Int.tmod node1 4))) + 32) ≤ ((o2.getD ((i64.wrap (43 + (i64.wrap (Int.tdiv node1 4)))).toNat) []).length : Int) then
     (rf09_Read (((o2.getD ((i64.wrap (43 + (i64.wrap (Int.tdiv node1 4)))).toNat) []).take (i64.wrap ((i64.wrap (32 * (Int.tmod node1 4))) + 32)).toNat).drop (i64.wrap (32 * (Int.tmod node1 4))).toNat)).bind fun (r33, r33_2) =>
      some ((((o1, o2), r33, r33_2)))
    else none
   else none
 else
  some ((((o1, o2), zC, 5)))

def rf12_Deal_Card_1.c : Callee' := mkC 115 ⟨38, 0, [.box (cr 1 (cr 2 .nil)), .arr .str, .arr .str], [0, 1], (cr 0 (cI .nil))⟩ [⟨39, 3, [.box (cr 1 (cr 2 .nil)), .arr .str, .arr .str], [38, 5], (.cons (.v (yC)) (cI .nil))⟩] rf12_Deal_Card_1
theorem rf12_Deal_Card_1.s : rf12_Deal_Card_1.c.ok Tryz.prog := sdR 38 [(4, 84)] (.z (.seq (.z (.cond (.z .std) .std)) (.z (.seq (.rq 13 rf09_Read.c) (.z .std))))) (kc rf09_Read.s kn) (kc rf09_Read.q kn) Tryz.func115

def cards_Place : (tB × Int × tB) → Option (tB × Int) := fun (block0, k1, card2) =>
 (cards_there (block0, k1)).bind fun r10 =>
  if (!r10) = false then
   if ((card2.length : Int) != 32) = true then
    some ((([], 1)))
   else
    if 0 ≤ i64.wrap (32 * k1) ∧ i64.wrap (32 * k1) ≤ (block0.length : Int) then
     if (block0.take (i64.wrap (32 * k1)).toNat).length + card2.length ≤ 9223372036854775807 then
      if 0 ≤ i64.wrap ((i64.wrap (32 * k1)) + 32) ∧ i64.wrap ((i64.wrap (32 * k1)) + 32) ≤ (block0.length : Int) then
       if ((block0.take (i64.wrap (32 * k1)).toNat) ++ card2).length + (block0.drop (i64.wrap ((i64.wrap (32 * k1)) + 32)).toNat).length ≤ 9223372036854775807 then
        some (((((block0.take (i64.wrap (32 * k1)).toNat) ++ card2) ++ (block0.drop (i64.wrap ((i64.wrap (32 * k1)) + 32)).toNat), 0)))
       else none
      else none
     else none
    else none
  else
   some ((([], 1)))

def cards_Place.c : Callee' := mkC 112 ⟨29, 0, [], [0, 1, 2], (cS (cI (cS .nil)))⟩ [⟨29, 0, [], [6, 7], (cS (cI .nil))⟩] cards_Place
theorem cards_Place.q : FunQuiet cards_Place.c.F := mkFun_quiet rfl rfl
theorem cards_Place.s : cards_Place.c.ok Tryz.prog := sd 29 (.z (.seq (.seq (.rq 2 cards_there.c) (.cond (.z .std) .std)) (.seq (.drw []) .std))) (kc cards_there.s kn) (kc cards_there.q kn) Tryz.func112

def deal_Deal_SetCard : (((Bool × Int) × (tL) × (Int × Int) × tS × tL) × Int × tC) → Option (((Bool × Int) × (tL) × (Int × Int) × tS × tL) × Int) := fun (((o1b, o1c), o2, (o3c, o3d), o4, o5), node1, c2) =>
 (deal_Deal_place ((((o4, o5, o3c, o3d), o1b, o1c), o2), node1)).bind fun (r15, r15_2, r15_3, r15_4) =>
  if (r15_4 != 0) = true then
   some (((((o1b, o1c), o2, (o3c, o3d), o4, o5), r15_4)))
  else
   (cards_Write c2).bind fun (r25, r25_2) =>
    if (r25_2 != 0) = true then
     some (((((o1b, o1c), o2, (o3c, o3d), o4, o5), r25_2)))
    else
     (cards_Place (r15_2, r15_3, r25)).bind fun (r35, r35_2) =>
      if (r35_2 != 0) = true then
       some (((((o1b, o1c), o2, (o3c, o3d), o4, o5), r35_2)))
      else
       (deal_Deal_Write (((o1b, o1c), o2, (o3c, o3d), o4, o5), r15, r35)).bind fun (((r44, r44_2), r44_3, (r44_4, r44_5), r44_6, r44_7), r44_8) =>
        some (((((r44, r44_2), r44_3, (r44_4, r44_5), r44_6, r44_7), r44_8)))

def deal_Deal_SetCard.c : Callee' := mkC 55 ⟨45, 0, [.box (cr 1 (cr 2 .nil)), .box (cr 3 (cB (cI .nil))), .map I .str, .box (cr 4 (cr 5 (cI (cI .nil)))), .arr .str, .map I .str], [0, 1, 2], (cr 0 (cI (.cons (.v (yC)) .nil)))⟩ [⟨45, 6, [.box (cr 1 (cr 2 .nil)), .box (cr 3 (cB (cI .nil))), .map I .str, .box (cr 4 (cr 5 (cI (cI .nil)))), .arr .str, .map I .str], [6], (cI .nil)⟩] deal_Deal_SetCard
theorem deal_Deal_SetCard.s : deal_Deal_SetCard.c.ok Tryz.prog := sd 45 (.z (.seq (.rq 2 deal_Deal_place.c) (.seq (.z (.cond (.z .std) .std)) (.seq (.reg [.std, .callq [cards_Write.c]]) (.seq (.z (.cond (.z .std) .std)) (.seq (.rq 3 cards_Place.c) (.seq (.z (.cond (.z .std) .std)) (.seq (.reg [.std, .std, .std, .call [deal_Deal_Write.c]]) .std)))))))) (kc deal_Deal_place.s (kc cards_Write.s (kc cards_Place.s (kc deal_Deal_Write.s kn)))) (kc deal_Deal_place.q (kc cards_Write.q (kc cards_Place.q kn))) Tryz.func55

def rf12_Deal_SetCard : ((tS × tS) × Int × tC) → Option ((tS × tS) × Int) := fun ((o1, o2), node1, c2) =>
 if decide (node1 < 0) = false then
  if decide (node1 ≥ 32) = true then
   some ((((o1, o2), 5)))
  else
   (rf09_Write c2).bind fun (r19, r19_2) =>
    if (r19_2 != 0) = true then
     some ((((o1, o2), r19_2)))
    else
     if 0 ≤ i64.wrap (43 + (i64.wrap (Int.tdiv node1 4))) ∧ i64.wrap (43 + (i64.wrap (Int.tdiv node1 4))) < (o2.length : Int) then
      if 0 ≤ i64.wrap (32 * (Int.tmod node1 4)) ∧ i64.wrap (32 * (Int.tmod node1 4)) ≤ ((o2.getD ((i64.wrap (43 + (i64.wrap (Int.tdiv node1 4)))).toNat) []).length : Int) then
       if ((o2.getD ((i64.wrap (43 + (i64.wrap (Int.tdiv node1 4)))).toNat) []).take (i64.wrap (32 * (Int.tmod node1 4))).toNat).length + r19.length ≤ 9223372036854775807 then
        if 0 ≤ i64.wrap ((i64.wrap (32 * (Int.tmod node1 4))) + 32) ∧ i64.wrap ((i64.wrap (32 * (Int.tmod node1 4))) + 32) ≤ ((o2.getD ((i64.wrap (43 + (i64.wrap (Int.tdiv node1 4)))).toNat) []).length : Int) then
         if (((o2.getD ((i64.wrap (43 + (i64.wrap (Int.tdiv node1 4)))).toNat) []).take (i64.wrap (32 * (Int.tmod node1 4))).toNat) ++ r19).length + ((o2.getD ((i64.wrap (43 + (i64.wrap (Int.tdiv node1 4)))).toNat) []).drop (i64.wrap ((i64.wrap (32 * (Int.tmod node1 4))) + 32)).toNat).length ≤ 9223372036854775807 then
          if 0 ≤ i64.wrap (43 + (i64.wrap (Int.tdiv node1 4))) ∧ i64.wrap (43 + (i64.wrap (Int.tdiv node1 4))) < (o2.length : Int) then
           some ((((o1, o2.set ((i64.wrap (43 + (i64.wrap (Int.tdiv node1 4)))).toNat) ((((o2.getD ((i64.wrap (43 + (i64.wrap (Int.tdiv node1 4)))).toNat) []).take (i64.wrap (32 * (Int.tmod node1 4))).toNat) ++ r19) ++ ((o2.getD ((i64.wrap (43 + (i64.wrap (Int.tdiv node1 4)))).toNat) []).drop (i64.wrap ((i64.wrap (32 * (Int.tmod node1 4))) + 32)).toNat))), 0)))
          else none
         else none
        else none
       else none
      else none
     else none
 else
  some ((((o1, o2), 5)))

def rf12_Deal_SetCard.c : Callee' := mkC 116 ⟨55, 0, [.box (cr 1 (cr 2 .nil)), .arr .str, .arr .str], [0, 1, 2], (cr 0 (cI (.cons (.v (yC)) .nil)))⟩ [⟨55, 3, [.box (cr 1 (cr 2 .nil)), .arr .str, .arr .str], [6], (cI .nil)⟩] rf12_Deal_SetCard
theorem rf12_Deal_SetCard.s : rf12_Deal_SetCard.c.ok Tryz.prog := sd 55 (.z (.seq (.z (.cond (.z .std) .std)) (.seq (.reg [.std, .callq [rf09_Write.c]]) (.seq (.z (.cond (.z .std) .std)) (.z (.z (.seq (.drw []) (.z .std)))))))) (kc rf09_Write.s kn) (kc rf09_Write.q kn) Tryz.func116

def rf12_Deal_Undo : (tS × tS) → Option (tS × tS × tS) := fun (o1, o2) =>
 if roomOk ((([] : tS)).length + o1.length) 16 then
  some (((o1, o2, (([] : tS)) ++ o1)))
 else none

def rf12_Deal_Undo.c : Callee' := mkC 117 ⟨10, 0, [.box (cr 1 (cr 2 .nil)), .arr .str, .arr .str], [0], (cr 0 .nil)⟩ [⟨10, 3, [.box (cr 1 (cr 3 .nil)), .arr .str, .arr .str, .arr .str], [], .nil⟩] rf12_Deal_Undo
theorem rf12_Deal_Undo.s : rf12_Deal_Undo.c.ok Tryz.prog := sd 10 (.reg [.std, .std, .std, .std, .std, .obj .str]) kn kn Tryz.func117

def rf12_Deal_Changed.l1 : (tI × (tS × tS) × Int) → Option ((tI × (tS × tS) × Int) ⊕ tI) := fun (out3, d0, i4) =>
 if decide (i4 < (d0.2.length : Int)) = true then
  if 0 ≤ i4 ∧ i4 < (d0.2.length : Int) then
   if 0 ≤ i4 ∧ i4 < (d0.1.length : Int) then
    if (!((d0.2.getD i4.toNat []) == (d0.1.getD i4.toNat []))) = true then
     if roomOk (out3.length + (([i4] : tI)).length) 8 then
      some (.inl ((out3 ++ (([i4] : tI)), d0, i64.wrap (i4 + 1))))
     else none
    else
     some (.inl ((out3, d0, i64.wrap (i4 + 1))))
   else none
  else none
 else
  some (.inr out3)

def rf12_Deal_Changed : (tS × tS) → Option tI := fun d0 =>
 (loopO rf12_Deal_Changed.l1 (([], d0, 0))).bind fun out3 =>
  some out3

def rf12_Deal_Changed.c : Callee' := mkC 62 ⟨34, 0, [], [0], (.cons (.v (.ptr (.pair (.sl .str) (.sl .str)))) .nil)⟩ [⟨34, 0, [], [2], (.cons (.v (.sl I)) .nil)⟩] rf12_Deal_Changed
theorem rf12_Deal_Changed.q : FunQuiet rf12_Deal_Changed.c.F := mkFun_quiet rfl rfl
theorem rf12_Deal_Changed.s : rf12_Deal_Changed.c.ok Tryz.prog := sd 34 (.z (.z (.seq (.z (.block (.loop ⟨34, 0, [.arr I], [0, 3, 4], (.cons (.v (.ptr (.pair (.sl .str) (.sl .str)))) (cr 0 (cI .nil)))⟩ [(.exit 0, ⟨34, 0, [.arr I], [3], (cr 0 .nil)⟩)]
  (.seq (.z (.cond .std .std)) (.seq (.block (.seq (.drw []) (.cond (.reg [.std, .std, .inl I, .obj I]) .std))) (.reg [])))))) (.z .std)))) kn kn Tryz.func62

def rf12_Deal_Changed_1.l1 : ((tS × tS × tI) × Int) → Option (((tS × tS × tI) × Int) ⊕ (tS × tS × tI)) := fun ((o1, o2, out3), i4) =>
 if decide (i4 < (o2.length : Int)) = true then
  if 0 ≤ i4 ∧ i4 < (o2.length : Int) then
   if 0 ≤ i4 ∧ i4 < (o1.length : Int) then
    if (!((o2.getD i4.toNat []) == (o1.getD i4.toNat []))) = true then
     if roomOk (out3.length + (([i4] : tI)).length) 8 then
      some (.inl (((o1, o2, out3 ++ (([i4] : tI))), i64.wrap (i4 + 1))))
     else none
    else
     some (.inl (((o1, o2, out3), i64.wrap (i4 + 1))))
   else none
  else none
 else
  some (.inr (((o1, o2, out3))))

def rf12_Deal_Changed_1 : (tS × tS) → Option ((tS × tS) × tI) := fun (o1, o2) =>
 (loopO rf12_Deal_Changed_1.l1 (((o1, o2, []), 0))).bind fun (o1, o2, out3) =>
  some ((((o1, o2), out3)))

def rf12_Deal_Changed_1.c : Callee' := mkC 62 ⟨34, 0, [.box (cr 1 (cr 2 .nil)), .arr .str, .arr .str], [0], (cr 0 .nil)⟩ [⟨34, 3, [.box (cr 1 (cr 2 .nil)), .arr .str, .arr .str], [2], (.cons (.v (.sl I)) .nil)⟩] rf12_Deal_Changed_1
theorem rf12_Deal_Changed_1.s : rf12_Deal_Changed_1.c.ok Tryz.prog := sd 34 (.z (.z (.seq (.z (.block (.loop ⟨34, 3, [.box (cr 1 (cr 2 .nil)), .arr .str, .arr .str, .arr I], [0, 3, 4], (cr 0 (cr 3 (cI .nil)))⟩ [(.exit 0, ⟨34, 3, [.box (cr 1 (cr 2 .nil)), .arr .str, .arr .str, .arr I], [3], (cr 3 .nil)⟩)]
  (.seq (.z (.cond .std .std)) (.seq (.block (.seq (.drw []) (.cond (.reg [.std, .std, .inl I, .obj I]) .std))) (.reg [])))))) (.z .std)))) kn kn Tryz.func62

def rf12_Deal_Commit : (tS × tS) → Option ((tS × tS) × Int) := fun (o1, o2) =>
 (rf12_Deal_Changed_1 (o1, o2)).bind fun ((r4, r4_2), r4_3) =>
  if decide ((r4_3.length : Int) > 40) = true then
   some ((((r4_2, r4), 13)))
  else
   if roomOk ((([] : tS)).length + r4_2.length) 16 then
    some ((((r4_2, (([] : tS)) ++ r4_2), 0)))
   else none

def rf12_Deal_Commit.c : Callee' := mkC 118 ⟨15, 0, [.box (cr 1 (cr 2 .nil)), .arr .str, .arr .str], [0], (cr 0 .nil)⟩ [⟨15, 3, [.box (cr 3 (cr 2 .nil)), .dead, .arr .str, .arr .str], [2], (cI .nil)⟩] rf12_Deal_Commit
theorem rf12_Deal_Commit.s : rf12_Deal_Commit.c.ok Tryz.prog := sd 15 (.z (.seq (.seq (.reg [.std, .call [rf12_Deal_Changed_1.c]]) (.cond (.z .std) .std)) (.seq (.reg [.std, .std, .std, .std, .std, .obj .str]) (.z .std)))) (kc rf12_Deal_Changed_1.s kn) kn Tryz.func118

def lw12_step : (((Bool × Int) × (tL) × tS × tS × (Int × Int) × tS × tL) × Int × Int × tB × (Int × Int × Int) × tC) → Option (((Bool × Int) × (tL) × (Int × Int) × tS × (tL) × tS × tS) × Bool) := fun (((o2b, o2c), o3, o4, o5, (o6c, o6d), o7, o8), ov2) =>
 (lw12_Op_kind ov2).bind fun r20 =>
  if (r20 == 0) = true then
   (deal_Deal_Read ((((o7, o8, o6c, o6d), o2b, o2c), o3), ov2.2.1)).bind fun (r27, r27_2) =>
    (rf12_Deal_Read ((o4, o5), ov2.2.1)).bind fun (r34, r34_2) =>
     if (r27 == r34) = true then
      some (((((o2b, o2c), o3, (o6c, o6d), o7, o8, o4, o5), (r27_2 == r34_2))))
     else
      some (((((o2b, o2c), o3, (o6c, o6d), o7, o8, o4, o5), false)))
  else
   if (r20 == 1) = true then
    (deal_Deal_Write (((o2b, o2c), o3, (o6c, o6d), o7, o8), ov2.2.1, ov2.2.2.1)).bind fun (((r52, r52_2), r52_3, (r52_4, r52_5), r52_6, r52_7), r52_8) =>
     (rf12_Deal_Write ((o4, o5), ov2.2.1, ov2.2.2.1)).bind fun ((r58, r58_2), r58_3) =>
      some (((((r52, r52_2), r52_3, (r52_4, r52_5), r52_6, r52_7, r58, r58_2), (r52_8 == r58_3))))
   else
    if (r20 == 2) = true then
     (deal_Deal_SetCrown (((o2b, o2c), o3, (o6c, o6d), o7, o8), ov2.2.2.2.1)).bind fun (((r65, r65_2), r65_3, (r65_4, r65_5), r65_6, r65_7), r65_8) =>
      (rf12_Deal_SetCrown ((o4, o5), ov2.2.2.2.1)).bind fun ((r69, r69_2), r69_3) =>
       some (((((r65, r65_2), r65_3, (r65_4, r65_5), r65_6, r65_7, r69, r69_2), (r65_8 == r69_3))))
    else
     if (r20 == 3) = true then
      (deal_Deal_Crown (((o7, o8, o6c, o6d), o2b, o2c), o3)).bind fun (r75, r75_2) =>
       (rf12_Deal_Crown (o4, o5)).bind fun (r80, r80_2) =>
        (deal_Deal_Card_1 (((o2b, o2c), o3, (o6c, o6d), o7, o8), ov2.2.1)).bind fun (((r87, r87_2), r87_3, (r87_4, r87_5), r87_6, r87_7), r87_8, r87_9) =>
         (rf12_Deal_Card_1 ((o4, o5), ov2.2.1)).bind fun ((r94, r94_2), r94_3, r94_4) =>
          if ((r75.1 == r80.1) && ((r75.2.1 == r80.2.1) && (r75.2.2 == r80.2.2))) = true then
           if (r75_2 == r80_2) = true then
            (rf09_Same (r87_8, r94_3)).bind fun r108 =>
             if r108 = true then
              some (((((r87, r87_2), r87_3, (r87_4, r87_5), r87_6, r87_7, r94, r94_2), (r87_9 == r94_4))))
             else
              some (((((r87, r87_2), r87_3, (r87_4, r87_5), r87_6, r87_7, r94, r94_2), false)))
           else
            some (((((r87, r87_2), r87_3, (r87_4, r87_5), r87_6, r87_7, r94, r94_2), false)))
          else
           some (((((r87, r87_2), r87_3, (r87_4, r87_5), r87_6, r87_7, r94, r94_2), false)))
     else
      if (r20 == 4) = true then
       (deal_Deal_SetCard (((o2b, o2c), o3, (o6c, o6d), o7, o8), ov2.2.1, ov2.2.2.2.2)).bind fun (((r122, r122_2), r122_3, (r122_4, r122_5), r122_6, r122_7), r122_8) =>
        (rf12_Deal_SetCard ((o4, o5), ov2.2.1, ov2.2.2.2.2)).bind fun ((r128, r128_2), r128_3) =>
         some (((((r122, r122_2), r122_3, (r122_4, r122_5), r122_6, r122_7, r128, r128_2), (r122_8 == r128_3))))
      else
       if (r20 == 5) = true then
        (deal_Deal_Undo ((o2b, o2c), o3, (o6c, o6d), o7, o8)).bind fun ((r133, r133_2), r133_3, (r133_4, r133_5), r133_6, r133_7) =>
         (rf12_Deal_Undo (o4, o5)).bind fun (r135, r135_2, r135_3) =>
          some (((((r133, r133_2), r133_3, (r133_4, r133_5), r133_6, r133_7, r135, r135_3), true)))
       else
        (deal_Deal_Commit ((o2b, o2c), o3, (o6c, o6d), o7, o8)).bind fun (((r137, r137_2), r137_3, (r137_4, r137_5), r137_6, r137_7), r137_8) =>
         (rf12_Deal_Commit (o4, o5)).bind fun ((r139, r139_2), r139_3) =>
          some (((((r137, r137_2), r137_3, (r137_4, r137_5), r137_6, r137_7, r139_2, r139), (r137_8 == r139_3))))

def lw12_step.c : Callee' := mkC 60 ⟨141, 0, [.box (cr 2 (cr 3 .nil)), .box (cr 4 (cr 5 .nil)), .box (cr 6 (cB (cI .nil))), .map I .str, .arr .str, .arr .str, .box (cr 7 (cr 8 (cI (cI .nil)))), .arr .str, .map I .str], [0, 1, 2], (cr 0 (cr 1 (.cons (.v (.st (.pair I (.pair I (.pair .str (.pair (.st (.pair I (.pair I I))) (yC))))))) .nil)))⟩ [⟨141, 9, [.box (cr 2 (cr 3 .nil)), .box (cr 9 (cr 10 .nil)), .box (cr 6 (cB (cI .nil))), .map I .str, .dead, .dead, .box (cr 7 (cr 8 (cI (cI .nil)))), .arr .str, .map I .str, .arr .str, .arr .str], [6], (cB .nil)⟩] lw12_step
theorem lw12_step.s : lw12_step.c.ok Tryz.prog := sd 141 (.z (.seq (.seq (.reg [.std, .callq [lw12_Op_kind.c]]) (.block (.z (.cond (.seq (.rq 3 deal_Deal_Read.c) (.seq (.rq 3 rf12_Deal_Read.c) (.z .std))) (.z (.cond (.seq (.drw [.std, .std, .std, .std, .std, .call [deal_Deal_Write.c], .std, .std, .std, .std, .std, .call [rf12_Deal_Write.c]]) .std) (.z (.cond (.seq (.drw [.std, .std, .std, .call [deal_Deal_SetCrown.c], .std, .std, .std, .call [rf12_Deal_SetCrown.c]]) .std) (.z (.cond (.seq (.reg [.std, .callq [deal_Deal_Crown.c]]) (.seq (.reg [.std, .callq [rf12_Deal_Crown.c]]) (.seq (.reg [.std, .std, .std, .call [deal_Deal_Card_1.c]]) (.seq (.reg [.std, .std, .std, .call [rf12_Deal_Card_1.c]]) (.seq (.reg [.std, .std, .eqs 81, .std, .std, .std, .std, .std, .std, .std, .std, .callq [rf09_Same.c]]) .std))))) (.z (.cond (.seq (.drw [.std, .std, .std, .std, .std, .call [deal_Deal_SetCard.c], .std, .std, .std, .std, .std, .call [rf12_Deal_SetCard.c]]) .std) (.z (.cond (.seq (.reg [.std, .call [deal_Deal_Undo.c]]) (.seq (.reg [.std, .call [rf12_Deal_Undo.c]]) (.z .std))) .std)))))))))))))) (.seq (.reg [.std, .call [deal_Deal_Commit.c], .std, .call [rf12_Deal_Commit.c]]) .std))) (kc lw12_Op_kind.s (kc deal_Deal_Read.s (kc rf12_Deal_Read.s (kc deal_Deal_Write.s (kc rf12_Deal_Write.s (kc deal_Deal_SetCrown.s (kc rf12_Deal_SetCrown.s (kc deal_Deal_Crown.s (kc rf12_Deal_Crown.s (kc deal_Deal_Card_1.s (kc rf12_Deal_Card_1.s (kc rf09_Same.s (kc deal_Deal_SetCard.s (kc rf12_Deal_SetCard.s (kc deal_Deal_Undo.s (kc rf12_Deal_Undo.s (kc deal_Deal_Commit.s (kc rf12_Deal_Commit.s kn)))))))))))))))))) (kc lw12_Op_kind.q (kc deal_Deal_Read.q (kc rf12_Deal_Read.q (kc deal_Deal_Crown.q (kc rf12_Deal_Crown.q (kc rf09_Same.q kn)))))) Tryz.func60

def rf11_own : Int → Option (Bool) := fun i0 =>
 if decide (i0 ≥ 1) = true then
  some ((decide (i0 ≤ 41)))
 else
  some false

def rf11_own.c : Callee' := mkC 80 ⟨9, 0, [], [0], (cI .nil)⟩ [⟨9, 0, [], [2], (cB .nil)⟩] rf11_own
theorem rf11_own.q : FunQuiet rf11_own.c.F := mkFun_quiet rfl rfl
theorem rf11_own.s : rf11_own.c.ok Tryz.prog := sd 9 (.z (.z .std)) kn kn Tryz.func80

def rf11_Same.l1 : (tS × tS × Int) → Option ((tS × tS × Int) ⊕ (Unit ⊕ Bool)) := fun (a0, b1, i5) =>
 if decide (i5 < (a0.length : Int)) = true then
  (rf11_own i5).bind fun r18 =>
   if (!r18) = true then
    if 0 ≤ i5 ∧ i5 < (a0.length : Int) then
     if 0 ≤ i5 ∧ i5 < (b1.length : Int) then
      if (!((a0.getD i5.toNat []) == (b1.getD i5.toNat []))) = true then
       some (.inr (.inr false))
      else
       some (.inl ((a0, b1, i64.wrap (i5 + 1))))
     else none
    else none
   else
    some (.inl ((a0, b1, i64.wrap (i5 + 1))))
 else
  some (.inr (.inl ()))

def rf11_Same : (tS × tS) → Option (Bool) := fun (a0, b1) =>
 if ((a0.length : Int) != (b1.length : Int)) = true then
  some false
 else
  (loopO rf11_Same.l1 ((a0, b1, 0))).bind fun d => match d with
  | .inl _ =>
   some true
  | .inr t4 =>
   some t4

def rf11_Same.c : Callee' := mkC 30 ⟨31, 0, [], [0, 1], (.cons (.v (.sl .str)) (.cons (.v (.sl .str)) .nil))⟩ [⟨31, 0, [], [4], (cB .nil)⟩] rf11_Same
theorem rf11_Same.q : FunQuiet rf11_Same.c.F := mkFun_quiet rfl rfl
theorem rf11_Same.s : rf11_Same.c.ok Tryz.prog := sd 31 (.z (.seq (.z (.cond (.z .std) .std)) (.seq (.z (.block (.loop ⟨31, 0, [], [0, 1, 5], (.cons (.v (.sl .str)) (.cons (.v (.sl .str)) (cI .nil)))⟩ [(.exit 0, ⟨31, 0, [], [], .nil⟩), (.ret, ⟨31, 0, [], [4], (cB .nil)⟩)]
  (.seq (.z (.cond .std .std)) (.seq (.block (.seq (.drw [.std, .callq [rf11_own.c]]) (.cond (.z .std) .std))) (.reg [])))))) (.z .std)))) (kc rf11_own.s kn) (kc rf11_own.q kn) Tryz.func30

def lw12_DealPlays.l1 : (((Int × Int) × tS × (tL) × (Bool × Int) × (tL) × tS × tS) × (List (Int × Int × tB × (Int × Int × Int) × tC)) × Int) → Option ((((Int × Int) × tS × (tL) × (Bool × Int) × (tL) × tS × tS) × (List (Int × Int × tB × (Int × Int × Int) × tC)) × Int) ⊕ (Unit ⊕ Bool)) := fun (((s5c, s5d), o3, o4, (o5b, o5c), o6, o7, o8), script1, i8) =>
 if decide (i8 < (script1.length : Int)) = true then
  if 0 ≤ i8 ∧ i8 < (script1.length : Int) then
   (lw12_step (((o5b, o5c), o6, o7, o8, (s5c, s5d), o3, o4), script1.getD i8.toNat (0, (0, ([], ((0, (0, 0)), (0, (0, (0, (0, ([], (0, (0, ([], 0)))))))))))))).bind fun (((r39, r39_2), r39_3, (r39_4, r39_5), r39_6, r39_7, r39_8, r39_9), r39_10) =>
    if (!r39_10) = false then
     (deal_Deal_Changed ((r39, r39_2), r39_3, (r39_4, r39_5), r39_6, r39_7)).bind fun (((r43, r43_2), r43_3, (r43_4, r43_5), r43_6, r43_7), r43_8) =>
      (rf12_Deal_Changed_1 (r39_8, r39_9)).bind fun ((r45, r45_2), r45_3) =>
       (rf01_Same (r43_8, r45_3)).bind fun r46 =>
        if (!r46) = false then
         (slab_Image ((r43_4, r43_5), r43_6, r43_7)).bind fun ((_, _, _), r51) =>
          (rf11_Same (r51, r45)).bind fun r56 =>
           if (!r56) = true then
            some (.inr (.inr false))
           else
            some (.inl ((((r43_4, r43_5), r43_6, r43_7, (r43, r43_2), r43_3, r45, r45_2), script1, i64.wrap (i8 + 1))))
        else
         some (.inr (.inr false))
    else
     some (.inr (.inr false))
  else none
 else
  some (.inr (.inl ()))

def lw12_DealPlays : (Int × List (Int × Int × tB × (Int × Int × Int) × tC)) → Option (Bool) := fun (n0, script1) =>
 (lw12_lives ()).bind fun r9 =>
  if (!r9) = true then
   some false
  else
   (lw12_early script1).bind fun r12 =>
    (lw12_begin (i64.wrap (64 + (i64.wrap (Int.tmod (u64.wrap (n0)) 60))))).bind fun d => match d with
    | .inl ((r19, r19_2), r19_3, r19_4) =>
     some false
    | .inr (((r19b, r19_2b), r19_3b, r19_4b, (r19_5b, r19_6b), r19_7b)) =>
     (slab_Image ((r19b, r19_2b), r19_3b, r19_4b)).bind fun ((_, _, _), r25) =>
      (rf12_Begin r25).bind fun (r26, r26_2) =>
       (loopO lw12_DealPlays.l1 ((((r19b, r19_2b), r19_3b, r19_4b, (r19_5b, r19_6b), r19_7b, r26, r26_2), r12, 0))).bind fun d => match d with
       | .inl _ =>
        some true
       | .inr t4 =>
        some t4

def lw12_DealPlays.ins : Spec := ⟨59, 0, [], [0, 1], (.cons (.v I) (.cons (.v (.sl (.st (.pair I (.pair I (.pair .str (.pair (.st (.pair I (.pair I I))) (.st (.pair I (.pair I (.pair I (.pair I (.pair (.sl I) (.pair I (.pair I (.pair (.sl (.st (.pair I (.pair I I)))) I)))))))))))))))) .nil))⟩
def lw12_DealPlays.outs : List Spec := [⟨59, 0, [], [4], (.cons (.v .bool) .nil)⟩]
def lw12_DealPlays.c : Callee' := mkC 12 lw12_DealPlays.ins lw12_DealPlays.outs lw12_DealPlays
theorem lw12_DealPlays.quiet : FunQuiet lw12_DealPlays.c.F := mkFun_quiet rfl rfl
def lw12_DealPlays.ann : Ann :=
  (.z (.seq (.seq (.reg [.callq [lw12_lives.c]]) (.cond (.z .std) .std)) (.seq (.reg [.std, .callq [lw12_early.c]]) (.seq (.reg [.std, .std, .std, .std, .std, .call [lw12_begin.c]]) (.seq (.seq (.reg [.std, .obj .bool]) (.cond (.z .std) .std)) (.seq (.reg [.std, .callq [slab_Image.c], .call [rf12_Begin.c]]) (.seq (.z (.block (.loop ⟨59, 0, [.box (cr 3 (cr 4 (cI (cI .nil)))), .box (cr 5 (cr 6 .nil)), .box (cr 7 (cr 8 .nil)), .arr .str, .map I .str, .box (cr 0 (cB (cI .nil))), .map I .str, .arr .str, .arr .str], [1, 5, 6, 7, 8], (.cons (.v (.sl (.st (.pair I (.pair I (.pair .str (.pair (.st (.pair I (.pair I I))) (yC)))))))) (cr 0 (cr 1 (cr 2 (cI .nil)))))⟩ [(.exit 0, ⟨59, 0, [], [], .nil⟩), (.ret, ⟨59, 0, [], [4], (cB .nil)⟩)]
  (.seq (.z (.cond .std .std)) (.seq (.block (.seq (.drw [.std, .std, .std, .std, .std, .std, .call [lw12_step.c], .std, .std, .std, .call [deal_Deal_Changed.c], .std, .call [rf12_Deal_Changed_1.c], .callq [rf01_Same.c], .std, .std, .std, .std, .callq [slab_Image.c], .std, .std, .std, .std, .callq [rf11_Same.c]]) (.cond (.z .std) .std))) (.reg [])))))) (.z .std))))))))
theorem lw12_DealPlays.eq : absFn tt 59 lw12_DealPlays.ins lw12_DealPlays.outs (bodyOf Tryz.f12) lw12_DealPlays.ann = lw12_DealPlays := by
  funext a
  kernel_rfl
theorem lw12_DealPlays.ok : lw12_DealPlays.ann.ok Tryz.prog 0 59 :=
  ann_ok (by kernel_rfl) (by kernel_rfl) (cs_cons lw12_lives.s (cs_cons lw12_early.s (cs_cons lw12_begin.s (cs_cons slab_Image.sound (cs_cons rf12_Begin.s (cs_cons lw12_step.s (cs_cons deal_Deal_Changed.s (cs_cons rf12_Deal_Changed_1.s (cs_cons rf01_Same.s (cs_cons slab_Image.sound (cs_cons rf11_Same.s cs_nil))))))))))) (cs_cons lw12_lives.q (cs_cons lw12_early.q (cs_cons slab_Image.quiet (cs_cons rf01_Same.q (cs_cons slab_Image.quiet (cs_cons rf11_Same.q cs_nil))))))
theorem lw12_DealPlays.sound : lw12_DealPlays.c.ok Tryz.prog := snd tt_ok mix_ok lw12_DealPlays.eq lw12_DealPlays.ok Tryz.func12 rfl rfl (by kernel_rfl) (by kernel_rfl) (by decide) (by decide)

def deal_Deal_Read_1 : Int → Option (tB × Int) := fun i1 =>
 some ((([], 1)))

def deal_Deal_Read_1.c : Callee' := mkC 49 ⟨21, 0, [], [0, 1], (.cons (.nilptr) (cI .nil))⟩ [⟨21, 0, [], [4, 5], (cS (cI .nil))⟩] deal_Deal_Read_1
theorem deal_Deal_Read_1.q : FunQuiet deal_Deal_Read_1.c.F := mkFun_quiet rfl rfl
theorem deal_Deal_Read_1.s : deal_Deal_Read_1.c.ok Tryz.prog := sd 21 (.z (.seq (.seq (.reg [.std, .obj .bool]) (.cond (.z .std) .std)) (.z .std))) kn kn Tryz.func49

def slab_Slab_Calls : (tS × (tL) × Int × Int) → Option (Int) := fun s0 =>
 some s0.2.2.1

def slab_Slab_Calls.c : Callee' := mkC 25 ⟨9, 0, [], [0], (.cons (.v (.ptr (.pair (.sl .str) (.pair (.map I .str) (.pair I I))))) .nil)⟩ [⟨9, 0, [], [2], (cI .nil)⟩] slab_Slab_Calls
theorem slab_Slab_Calls.q : FunQuiet slab_Slab_Calls.c.F := mkFun_quiet rfl rfl
theorem slab_Slab_Calls.s : slab_Slab_Calls.c.ok Tryz.prog := sd 9 (.z (.seq (.seq (.reg [.std, .obj .bool]) (.cond (.z .std) .std)) (.z .std))) kn kn Tryz.func25

def lw12_DealApart.l1 : (((Int × Int) × tS × (tL) × (Bool × Int) × (tL) × tL) × (List (Int × Int × tB × (Int × Int × Int) × tC)) × Int × tB × Int × Int) → Option ((((Int × Int) × tS × (tL) × (Bool × Int) × (tL) × tL) × (List (Int × Int × tB × (Int × Int × Int) × tC)) × Int × tB × Int × Int) ⊕ (((Int × Int) × tS × (tL) × (Bool × Int) × (tL) × tL) × Int × tB × Int)) := fun (((s5c, s5d), o3, o4, (o5b, o5c), o6, o7), script0, i1, was12, h13, k14) =>
 if decide (k14 < (script0.length : Int)) = true then
  if 0 ≤ k14 ∧ k14 < (script0.length : Int) then
   (lw12_Op_kind (script0.getD k14.toNat (0, (0, ([], ((0, (0, 0)), (0, (0, (0, (0, ([], (0, (0, ([], 0)))))))))))))).bind fun r65 =>
    if (r65 != 6) = true then
     (slab_Image ((s5c, s5d), o3, o4)).bind fun ((_, _, _), r69) =>
      (rf12_Begin r69).bind fun (r70, r70_2) =>
       if 0 ≤ k14 ∧ k14 < (script0.length : Int) then
        (lw12_step (((o5b, o5c), o6, r70, r70_2, (s5c, s5d), o3, o4), script0.getD k14.toNat (0, (0, ([], ((0, (0, 0)), (0, (0, (0, (0, ([], (0, (0, ([], 0)))))))))))))).bind fun (((r75, r75_2), r75_3, (r75_4, r75_5), r75_6, r75_7, r75_8, r75_9), r75_10) =>
         some (.inl ((((r75_4, r75_5), r75_6, r75_7, (r75, r75_2), r75_3, o7), script0, i1, was12, h13, i64.wrap (k14 + 1))))
       else none
    else
     some (.inl ((((s5c, s5d), o3, o4, (o5b, o5c), o6, o7), script0, i1, was12, h13, i64.wrap (k14 + 1))))
  else none
 else
  some (.inr (((((s5c, s5d), o3, o4, (o5b, o5c), o6, o7), i1, was12, h13))))

def lw12_DealApart : ((List (Int × Int × tB × (Int × Int × Int) × tC)) × Int) → Option (Bool) := fun (script0, i1) =>
 (lw12_lives ()).bind fun r21 =>
  if (!r21) = true then
   some false
  else
   (lw12_early script0).bind fun r24 =>
    (slab_New 80).bind fun ((r25, r25_2), r25_3, r25_4) =>
     (log_Open ((r25, r25_2), r25_3, r25_4)).bind fun d => match d with
     | .inl (((r28, r28_2), r28_3, r28_4), r28_5) =>
      if (r28_5 != 0) = true then
       some false
      else
       (deal_Begin ()).bind fun r35 =>
        (deal_Begin ()).bind fun r40 =>
         if (r35 != 0) = false then
          if (r40 != 0) = true then
           some false
          else
           (deal_Deal_Read_1 i1).bind fun (r52, r52_2) =>
            none
         else
          some false
     | .inr ((((r28b, r28_2b), r28_3b, r28_4b, r28_5b, r28_6b), r28_7b)) =>
      if (r28_7b != 0) = true then
       some false
      else
       (deal_Begin_2 ((r28_5b, r28_6b), (r28b, r28_2b), r28_3b, r28_4b)).bind fun (((r35a, r35a_2), (r35a_3, r35a_4), r35a_5, r35a_6, r35a_7), r35a_8) =>
        (deal_Begin_2 ((r35a, r35a_2), (r35a_3, r35a_4), r35a_5, r35a_6)).bind fun (((r40a, r40a_2), (r40a_3, r40a_4), r40a_5, r40a_6, r40a_7), r40a_8) =>
         if (r35a_8 != 0) = false then
          if (r40a_8 != 0) = true then
           some false
          else
           (deal_Deal_Read ((((r40a_5, r40a_6, r40a_3, r40a_4), r40a, r40a_2), r40a_7), i1)).bind fun (r52a, r52a_2) =>
            (loopO lw12_DealApart.l1 ((((r40a_3, r40a_4), r40a_5, r40a_6, (r40a, r40a_2), r35a_7, r40a_7), r24, i1, r52a, r52a_2, 0))).bind fun (((s5c, s5d), o3, o4, (o5b, o5c), o6, o7), i1, was12, h13) =>
             (deal_Deal_Read ((((o3, o4, s5c, s5d), o5b, o5c), o7), i1)).bind fun (r79, r79_2) =>
              if (!(was12 == r79)) = false then
               if (h13 != r79_2) = false then
                (deal_Deal_Changed ((o5b, o5c), o7, (s5c, s5d), o3, o4)).bind fun (((r92, r92_2), r92_3, (r92_4, r92_5), r92_6, r92_7), r92_8) =>
                 if ((r92_8.length : Int) != 0) = false then
                  (slab_Slab_Calls (r92_6, r92_7, r92_4, r92_5)).bind fun r98 =>
                   if (r98 != 0) = true then
                    some false
                   else
                    (deal_Deal_Read ((((r92_6, r92_7, r92_4, r92_5), r92, r92_2), o6), i1)).bind fun (r104, r104_2) =>
                     (deal_Deal_Commit ((r92, r92_2), o6, (r92_4, r92_5), r92_6, r92_7)).bind fun (((r108, r108_2), r108_3, (r108_4, r108_5), r108_6, r108_7), r108_8) =>
                      if (r108_8 != 0) = true then
                       (deal_Deal_Changed ((r108, r108_2), r108_3, (r108_4, r108_5), r108_6, r108_7)).bind fun (((r111, r111_2), r111_3, (r111_4, r111_5), r111_6, r111_7), r111_8) =>
                        some ((decide ((r111_8.length : Int) > 40)))
                      else
                       (deal_Deal_Read ((((r108_6, r108_7, r108_4, r108_5), r108, r108_2), r92_3), i1)).bind fun (r117, r117_2) =>
                        if (r117 == r104) = true then
                         some (((r117_2 == r79_2)))
                        else
                         some false
                 else
                  some false
               else
                some false
              else
               some false
         else
          some false

def lw12_DealApart.ins : Spec := ⟨128, 0, [], [0, 1], (.cons (.v (.sl (.st (.pair I (.pair I (.pair .str (.pair (.st (.pair I (.pair I I))) (.st (.pair I (.pair I (.pair I (.pair I (.pair (.sl I) (.pair I (.pair I (.pair (.sl (.st (.pair I (.pair I I)))) I)))))))))))))))) (.cons (.v I) .nil))⟩
def lw12_DealApart.outs : List Spec := [⟨128, 0, [], [4], (.cons (.v .bool) .nil)⟩]
def lw12_DealApart.c : Callee' := mkC 14 lw12_DealApart.ins lw12_DealApart.outs lw12_DealApart
theorem lw12_DealApart.quiet : FunQuiet lw12_DealApart.c.F := mkFun_quiet rfl rfl
def lw12_DealApart.ann : Ann :=
  (.z (.seq (.seq (.reg [.callq [lw12_lives.c]]) (.cond (.z .std) .std)) (.seq (.reg [.std, .callq [lw12_early.c]]) (.seq (.reg [.call [slab_New.c]]) (.seq (.reg [.std, .call [log_Open.c]]) (.seq (.z (.cond (.z .std) .std)) (.seq (.reg [.std, .call [deal_Begin.c, deal_Begin_2.c]]) (.seq (.reg [.std, .call [deal_Begin.c, deal_Begin_2.c]]) (.seq (.z (.cond (.z .std) .std)) (.seq (.reg [.std, .std, .callq [deal_Deal_Read_1.c, deal_Deal_Read.c]]) (.seq (.z (.block (.loop ⟨128, 0, [.box (cr 3 (cr 4 (cI (cI .nil)))), .box (cr 5 (cr 6 .nil)), .box (cr 5 (cr 7 .nil)), .arr .str, .map I .str, .box (cr 0 (cB (cI .nil))), .map I .str, .map I .str], [0, 1, 5, 8, 10, 12, 13, 14], (.cons (.v (.sl (.st (.pair I (.pair I (.pair .str (.pair (.st (.pair I (.pair I I))) (yC)))))))) (cI (cr 0 (cr 1 (cr 2 (cS (cI (cI .nil))))))))⟩ [(.exit 0, ⟨128, 0, [.box (cr 3 (cr 4 (cI (cI .nil)))), .box (cr 5 (cr 6 .nil)), .box (cr 5 (cr 7 .nil)), .arr .str, .map I .str, .box (cr 0 (cB (cI .nil))), .map I .str, .map I .str], [1, 5, 8, 10, 12, 13], (cI (cr 0 (cr 1 (cr 2 (cS (cI .nil))))))⟩)]
  (.seq (.z (.cond .std .std)) (.seq (.block (.seq (.rq 4 lw12_Op_kind.c) (.cond (.drw [.std, .std, .callq [slab_Image.c], .call [rf12_Begin.c], .std, .std, .std, .std, .call [lw12_step.c]]) .std))) (.reg [])))))) (.seq (.rq 2 deal_Deal_Read.c) (.seq (.seq (.reg [.std, .std, .std, .std, .std, .std, .std, .std, .std, .std, .call [deal_Deal_Changed.c], .std, .std, .std, .std, .std, .callq [slab_Slab_Calls.c]]) (.cond (.z .std) .std)) (.seq (.rq 2 deal_Deal_Read.c) (.seq (.seq (.reg [.std, .call [deal_Deal_Commit.c]]) (.cond (.seq (.reg [.std, .call [deal_Deal_Changed.c]]) .std) .std)) (.seq (.rq 2 deal_Deal_Read.c) (.z .std)))))))))))))))))
theorem lw12_DealApart.eq : absFn tt 128 lw12_DealApart.ins lw12_DealApart.outs (bodyOf Tryz.f14) lw12_DealApart.ann = lw12_DealApart := by
  funext a
  kernel_rfl
theorem lw12_DealApart.ok : lw12_DealApart.ann.ok Tryz.prog 0 128 :=
  ann_ok (by kernel_rfl) (by kernel_rfl) (cs_cons lw12_lives.s (cs_cons lw12_early.s (cs_cons slab_New.s (cs_cons log_Open.s (cs_cons deal_Begin.s (cs_cons deal_Begin_2.s (cs_cons deal_Begin.s (cs_cons deal_Begin_2.s (cs_cons deal_Deal_Read_1.s (cs_cons deal_Deal_Read.s (cs_cons lw12_Op_kind.s (cs_cons slab_Image.sound (cs_cons rf12_Begin.s (cs_cons lw12_step.s (cs_cons deal_Deal_Read.s (cs_cons deal_Deal_Changed.s (cs_cons slab_Slab_Calls.s (cs_cons deal_Deal_Read.s (cs_cons deal_Deal_Commit.s (cs_cons deal_Deal_Changed.s (cs_cons deal_Deal_Read.s cs_nil))))))))))))))))))))) (cs_cons lw12_lives.q (cs_cons lw12_early.q (cs_cons deal_Deal_Read_1.q (cs_cons deal_Deal_Read.q (cs_cons lw12_Op_kind.q (cs_cons slab_Image.quiet (cs_cons deal_Deal_Read.q (cs_cons slab_Slab_Calls.q (cs_cons deal_Deal_Read.q (cs_cons deal_Deal_Read.q cs_nil))))))))))
theorem lw12_DealApart.sound : lw12_DealApart.c.ok Tryz.prog := snd tt_ok mix_ok lw12_DealApart.eq lw12_DealApart.ok Tryz.func14 rfl rfl (by kernel_rfl) (by kernel_rfl) (by decide) (by decide)

def lw12_DealCards.l1 : ((tC × (Int × Int × Int) × (Int × Int) × tS × (tL) × (Bool × Int) × tL) × (List (Int × Int × tB × (Int × Int × Int) × tC)) × Int × Int) → Option (((tC × (Int × Int × Int) × (Int × Int) × tS × (tL) × (Bool × Int) × tL) × (List (Int × Int × tB × (Int × Int × Int) × tC)) × Int × Int) ⊕ ((tC × (Int × Int × Int) × (Bool × Int) × (tL) × (Int × Int) × tS × tL) × Int)) := fun (((c6a, c6b, c6c, c6d, c6e, c6f, c6g, c6h, c6i), (k7a, k7b, k7c), (s8c, s8d), o4, o5, (o6b, o6c), o7), script0, node5, i10) =>
 if decide (i10 < (script0.length : Int)) = true then
  (slab_Image ((s8c, s8d), o4, o5)).bind fun ((_, _, _), r46) =>
   (rf12_Begin r46).bind fun (r47, r47_2) =>
    if 0 ≤ i10 ∧ i10 < (script0.length : Int) then
     (lw12_step (((o6b, o6c), o7, r47, r47_2, (s8c, s8d), o4, o5), script0.getD i10.toNat (0, (0, ([], ((0, (0, 0)), (0, (0, (0, (0, ([], (0, (0, ([], 0)))))))))))))).bind fun (((r52, r52_2), r52_3, (r52_4, r52_5), r52_6, r52_7, r52_8, r52_9), r52_10) =>
      some (.inl ((((c6a, c6b, c6c, c6d, c6e, c6f, c6g, c6h, c6i), (k7a, k7b, k7c), (r52_4, r52_5), r52_6, r52_7, (r52, r52_2), r52_3), script0, node5, i64.wrap (i10 + 1))))
    else none
 else
  some (.inr (((((c6a, c6b, c6c, c6d, c6e, c6f, c6g, c6h, c6i), (k7a, k7b, k7c), (o6b, o6c), o7, (s8c, s8d), o4, o5), node5))))

def lw12_DealCards.l2 : ((tC × (Int × Int × Int) × (List tC) × (Bool × Int) × (tL) × (Int × Int) × tS × tL) × Int × Int) → Option (((tC × (Int × Int × Int) × (List tC) × (Bool × Int) × (tL) × (Int × Int) × tS × tL) × Int × Int) ⊕ ((tC × (Int × Int × Int) × (List tC) × (Bool × Int) × (tL) × (Int × Int) × tS × tL) × Int)) := fun (((c6a, c6b, c6c, c6d, c6e, c6f, c6g, c6h, c6i), (k7a, k7b, k7c), was11, (o4b, o4c), o5, (o6c, o6d), o7, o8), node5, i12) =>
 if decide (i12 < 32) = true then
  (deal_Deal_Card_1 (((o4b, o4c), o5, (o6c, o6d), o7, o8), i12)).bind fun (((r60, r60_2), r60_3, (r60_4, r60_5), r60_6, r60_7), r60_8, r60_9) =>
   if roomOk (was11.length + (([r60_8] : List tC)).length) 104 then
    some (.inl ((((c6a, c6b, c6c, c6d, c6e, c6f, c6g, c6h, c6i), (k7a, k7b, k7c), was11 ++ (([r60_8] : List tC)), (r60, r60_2), r60_3, (r60_4, r60_5), r60_6, r60_7), node5, i64.wrap (i12 + 1))))
   else none
 else
  some (.inr (((((c6a, c6b, c6c, c6d, c6e, c6f, c6g, c6h, c6i), (k7a, k7b, k7c), was11, (o4b, o4c), o5, (o6c, o6d), o7, o8), node5))))

def lw12_DealCards.l3 : ((tC × (Int × Int × Int) × (List tC) × (Bool × Int) × (tL) × (Int × Int) × tS × tL) × Int × Int × Int) → Option (((tC × (Int × Int × Int) × (List tC) × (Bool × Int) × (tL) × (Int × Int) × tS × tL) × Int × Int × Int) ⊕ (((tC × (Int × Int × Int) × (Bool × Int) × (tL) × (Int × Int) × tS × tL) × Int × Int) ⊕ Bool)) := fun (((c6a, c6b, c6c, c6d, c6e, c6f, c6g, c6h, c6i), (k7a, k7b, k7c), was11, (o4b, o4c), o5, (o6c, o6d), o7, o8), node5, e15, i16) =>
 if decide (i16 < 32) = true then
  (deal_Deal_Card_1 (((o4b, o4c), o5, (o6c, o6d), o7, o8), i16)).bind fun (((r78, r78_2), r78_3, (r78_4, r78_5), r78_6, r78_7), r78_8, r78_9) =>
   ((
    if (e15 == 0) = true then
     if (i16 == node5) = true then
      if (r78_9 != 0) = false then
       (rf09_Same (r78_8, c6a, c6b, c6c, c6d, c6e, c6f, c6g, c6h, c6i)).bind fun r94 =>
        if (!r94) = true then
         some (.inr false)
        else
         some (.inl ((((c6a, c6b, c6c, c6d, c6e, c6f, c6g, c6h, c6i), (k7a, k7b, k7c), was11, r78_8, (r78, r78_2), r78_3, (r78_4, r78_5), r78_6, r78_7), node5, e15, i16)))
      else
       some (.inr false)
     else
      some (.inl ((((c6a, c6b, c6c, c6d, c6e, c6f, c6g, c6h, c6i), (k7a, k7b, k7c), was11, r78_8, (r78, r78_2), r78_3, (r78_4, r78_5), r78_6, r78_7), node5, e15, i16)))
    else
     some (.inl ((((c6a, c6b, c6c, c6d, c6e, c6f, c6g, c6h, c6i), (k7a, k7b, k7c), was11, r78_8, (r78, r78_2), r78_3, (r78_4, r78_5), r78_6, r78_7), node5, e15, i16)))) : Option (((tC × (Int × Int × Int) × (List tC) × tC × (Bool × Int) × (tL) × (Int × Int) × tS × tL) × Int × Int × Int) ⊕ Bool)).bind fun d => match d with
   | .inl (((c6a, c6b, c6c, c6d, c6e, c6f, c6g, c6h, c6i), (k7a, k7b, k7c), was11, (x17a, x17b, x17c, x17d, x17e, x17f, x17g, x17h, x17i), (o5b, o5c), o6, (o7c, o7d), o8, o9), node5, e15, i16) =>
    if (e15 != 0) = false then
     if (i16 != node5) = true then
      if 0 ≤ i16 ∧ i16 < (was11.length : Int) then
       (rf09_Same ((x17a, x17b, x17c, x17d, x17e, x17f, x17g, x17h, x17i), was11.getD i16.toNat (0, (0, (0, (0, ([], (0, (0, ([], 0)))))))))).bind fun r111 =>
        if (!r111) = true then
         some (.inr (.inr false))
        else
         some (.inl ((((c6a, c6b, c6c, c6d, c6e, c6f, c6g, c6h, c6i), (k7a, k7b, k7c), was11, (o5b, o5c), o6, (o7c, o7d), o8, o9), node5, e15, i64.wrap (i16 + 1))))
      else none
     else
      some (.inl ((((c6a, c6b, c6c, c6d, c6e, c6f, c6g, c6h, c6i), (k7a, k7b, k7c), was11, (o5b, o5c), o6, (o7c, o7d), o8, o9), node5, e15, i64.wrap (i16 + 1))))
    else
     if 0 ≤ i16 ∧ i16 < (was11.length : Int) then
      (rf09_Same ((x17a, x17b, x17c, x17d, x17e, x17f, x17g, x17h, x17i), was11.getD i16.toNat (0, (0, (0, (0, ([], (0, (0, ([], 0)))))))))).bind fun r111a =>
       if (!r111a) = true then
        some (.inr (.inr false))
       else
        some (.inl ((((c6a, c6b, c6c, c6d, c6e, c6f, c6g, c6h, c6i), (k7a, k7b, k7c), was11, (o5b, o5c), o6, (o7c, o7d), o8, o9), node5, e15, i64.wrap (i16 + 1))))
     else none
   | .inr t4 =>
    some (.inr (.inr t4))
 else
  some (.inr (.inl ((((c6a, c6b, c6c, c6d, c6e, c6f, c6g, c6h, c6i), (k7a, k7b, k7c), (o4b, o4c), o5, (o6c, o6d), o7, o8), node5, e15))))

def lw12_DealCards : ((List (Int × Int × tB × (Int × Int × Int) × tC)) × Int × Int × tB × (Int × Int × Int) × tC) → Option (Bool) := fun (script0, ov1) =>
 (lw12_lives ()).bind fun r28 =>
  if (!r28) = true then
   some false
  else
   (lw12_early script0).bind fun r31 =>
    (lw12_begin 100).bind fun d => match d with
    | .inl ((r33, r33_2), r33_3, r33_4) =>
     some false
    | .inr (((r33b, r33_2b), r33_3b, r33_4b, (r33_5b, r33_6b), r33_7b)) =>
     (loopO lw12_DealCards.l1 (((ov1.2.2.2.2, ov1.2.2.2.1, (r33b, r33_2b), r33_3b, r33_4b, (r33_5b, r33_6b), r33_7b), r31, ov1.2.1, 0))).bind fun (((c6a, c6b, c6c, c6d, c6e, c6f, c6g, c6h, c6i), (k7a, k7b, k7c), (o3b, o3c), o4, (o5c, o5d), o6, o7), node5) =>
      (loopO lw12_DealCards.l2 ((((c6a, c6b, c6c, c6d, c6e, c6f, c6g, c6h, c6i), (k7a, k7b, k7c), [], (o3b, o3c), o4, (o5c, o5d), o6, o7), node5, 0))).bind fun (((c6a, c6b, c6c, c6d, c6e, c6f, c6g, c6h, c6i), (k7a, k7b, k7c), was11, (o4b, o4c), o5, (o6c, o6d), o7, o8), node5) =>
       (deal_Deal_SetCard (((o4b, o4c), o5, (o6c, o6d), o7, o8), node5, c6a, c6b, c6c, c6d, c6e, c6f, c6g, c6h, c6i)).bind fun (((r70, r70_2), r70_3, (r70_4, r70_5), r70_6, r70_7), r70_8) =>
        (loopO lw12_DealCards.l3 ((((c6a, c6b, c6c, c6d, c6e, c6f, c6g, c6h, c6i), (k7a, k7b, k7c), was11, (r70, r70_2), r70_3, (r70_4, r70_5), r70_6, r70_7), node5, r70_8, 0))).bind fun d => match d with
        | .inl (((c6a, c6b, c6c, c6d, c6e, c6f, c6g, c6h, c6i), (k7a, k7b, k7c), (o3b, o3c), o4, (o5c, o5d), o6, o7), node5, e15) =>
         (deal_Deal_SetCrown (((o3b, o3c), o4, (o5c, o5d), o6, o7), k7a, k7b, k7c)).bind fun (((r116, r116_2), r116_3, (r116_4, r116_5), r116_6, r116_7), r116_8) =>
          (deal_Deal_Crown (((r116_6, r116_7, r116_4, r116_5), r116, r116_2), r116_3)).bind fun (r119, r119_2) =>
           if decide (node5 ≥ 0) = true then
            if decide (node5 < 32) = true then
             (rf09_Right (c6a, c6b, c6c, c6d, c6e, c6f, c6g, c6h, c6i)).bind fun r132 =>
              if ((e15 == 0) == r132) = true then
               if (r116_8 != 0) = false then
                if (r119_2 == 0) = true then
                 some ((((r119.1 == k7a) && ((r119.2.1 == k7b) && (r119.2.2 == k7c)))))
                else
                 some false
               else
                some true
              else
               some false
            else
             if ((e15 == 0) == false) = true then
              if (r116_8 != 0) = false then
               if (r119_2 == 0) = true then
                some ((((r119.1 == k7a) && ((r119.2.1 == k7b) && (r119.2.2 == k7c)))))
               else
                some false
              else
               some true
             else
              some false
           else
            if ((e15 == 0) == false) = true then
             if (r116_8 != 0) = false then
              if (r119_2 == 0) = true then
               some ((((r119.1 == k7a) && ((r119.2.1 == k7b) && (r119.2.2 == k7c)))))
              else
               some false
             else
              some true
            else
             some false
        | .inr t4 =>
         some t4

def lw12_DealCards.ins : Spec := ⟨148, 0, [], [0, 1], (.cons (.v (.sl (.st (.pair I (.pair I (.pair .str (.pair (.st (.pair I (.pair I I))) (.st (.pair I (.pair I (.pair I (.pair I (.pair (.sl I) (.pair I (.pair I (.pair (.sl (.st (.pair I (.pair I I)))) I)))))))))))))))) (.cons (.v (.st (.pair I (.pair I (.pair .str (.pair (.st (.pair I (.pair I I))) (.st (.pair I (.pair I (.pair I (.pair I (.pair (.sl I) (.pair I (.pair I (.pair (.sl (.st (.pair I (.pair I I)))) I))))))))))))))) .nil))⟩
def lw12_DealCards.outs : List Spec := [⟨148, 0, [], [4], (.cons (.v .bool) .nil)⟩]
def lw12_DealCards.c : Callee' := mkC 13 lw12_DealCards.ins lw12_DealCards.outs lw12_DealCards
theorem lw12_DealCards.quiet : FunQuiet lw12_DealCards.c.F := mkFun_quiet rfl rfl
def lw12_DealCards.ann : Ann :=
  (.z (.seq (.drw []) (.seq (.seq (.reg [.callq [lw12_lives.c]]) (.cond (.z .std) .std)) (.seq (.reg [.std, .callq [lw12_early.c]]) (.seq (.reg [.call [lw12_begin.c]]) (.seq (.seq (.reg [.std, .obj .bool]) (.cond (.z .std) .std)) (.seq (.z (.block (.loop ⟨148, 0, [.box (cI (cI (cI (cI (.cons (.v (.sl I)) (cI (cI (.cons (.v (.sl (.st (.pair I (.pair I I))))) (cI .nil))))))))), .box (cI (cI (cI .nil))), .box (cr 4 (cr 5 (cI (cI .nil)))), .box (cr 6 (cr 7 .nil)), .arr .str, .map I .str, .box (cr 2 (cB (cI .nil))), .map I .str], [0, 5, 6, 7, 8, 9, 10], (.cons (.v (.sl (.st (.pair I (.pair I (.pair .str (.pair (.st (.pair I (.pair I I))) (yC)))))))) (cI (cr 0 (cr 1 (cr 2 (cr 3 (cI .nil)))))))⟩ [(.exit 0, ⟨148, 0, [.box (cI (cI (cI (cI (.cons (.v (.sl I)) (cI (cI (.cons (.v (.sl (.st (.pair I (.pair I I))))) (cI .nil))))))))), .box (cI (cI (cI .nil))), .box (cr 3 (cr 4 .nil)), .box (cr 5 (cB (cI .nil))), .map I .str, .box (cr 6 (cr 7 (cI (cI .nil)))), .arr .str, .map I .str], [5, 6, 7, 9], (cI (cr 0 (cr 1 (cr 2 .nil))))⟩)]
  (.seq (.z (.cond .std .std)) (.seq (.block (.drw [.std, .std, .callq [slab_Image.c], .call [rf12_Begin.c], .std, .std, .std, .std, .call [lw12_step.c]])) (.reg [])))))) (.z (.seq (.z (.block (.loop ⟨148, 0, [.box (cI (cI (cI (cI (.cons (.v (.sl I)) (cI (cI (.cons (.v (.sl (.st (.pair I (.pair I I))))) (cI .nil))))))))), .box (cI (cI (cI .nil))), .box (cr 4 (cr 5 .nil)), .arr (yC), .box (cr 6 (cB (cI .nil))), .map I .str, .box (cr 7 (cr 8 (cI (cI .nil)))), .arr .str, .map I .str], [5, 6, 7, 9, 11, 12], (cI (cr 0 (cr 1 (cr 2 (cr 3 (cI .nil))))))⟩ [(.exit 2, ⟨148, 0, [.box (cI (cI (cI (cI (.cons (.v (.sl I)) (cI (cI (.cons (.v (.sl (.st (.pair I (.pair I I))))) (cI .nil))))))))), .box (cI (cI (cI .nil))), .box (cr 4 (cr 5 .nil)), .arr (yC), .box (cr 6 (cB (cI .nil))), .map I .str, .box (cr 7 (cr 8 (cI (cI .nil)))), .arr .str, .map I .str], [5, 6, 7, 9, 11], (cI (cr 0 (cr 1 (cr 2 (cr 3 .nil)))))⟩)]
  (.seq (.z (.cond .std .std)) (.seq (.block (.seq (.reg [.std, .std, .call [deal_Deal_Card_1.c]]) (.reg [.std, .std, .inl (yC), .obj (yC)]))) (.reg [])))))) (.seq (.reg [.std, .std, .std, .call [deal_Deal_SetCard.c]]) (.seq (.z (.block (.loop ⟨148, 0, [.box (cI (cI (cI (cI (.cons (.v (.sl I)) (cI (cI (.cons (.v (.sl (.st (.pair I (.pair I I))))) (cI .nil))))))))), .box (cI (cI (cI .nil))), .box (cr 4 (cr 5 .nil)), .arr (yC), .box (cr 6 (cB (cI .nil))), .map I .str, .box (cr 7 (cr 8 (cI (cI .nil)))), .arr .str, .map I .str], [5, 6, 7, 9, 11, 15, 16], (cI (cr 0 (cr 1 (cr 2 (cr 3 (cI (cI .nil)))))))⟩ [(.exit 4, ⟨148, 0, [.box (cI (cI (cI (cI (.cons (.v (.sl I)) (cI (cI (.cons (.v (.sl (.st (.pair I (.pair I I))))) (cI .nil))))))))), .box (cI (cI (cI .nil))), .box (cr 3 (cr 4 .nil)), .box (cr 5 (cB (cI .nil))), .map I .str, .box (cr 6 (cr 7 (cI (cI .nil)))), .arr .str, .map I .str], [5, 6, 7, 9, 15], (cI (cr 0 (cr 1 (cr 2 (cI .nil)))))⟩), (.ret, ⟨148, 0, [], [4], (cB .nil)⟩)]
  (.seq (.z (.cond .std .std)) (.seq (.block (.seq (.reg [.std, .std, .call [deal_Deal_Card_1.c]]) (.join [(.norm, ⟨148, 0, [.box (cI (cI (cI (cI (.cons (.v (.sl I)) (cI (cI (.cons (.v (.sl (.st (.pair I (.pair I I))))) (cI .nil))))))))), .box (cI (cI (cI .nil))), .box (cr 5 (cr 6 .nil)), .arr (yC), .box (cI (cI (cI (cI (.cons (.v (.sl I)) (cI (cI (.cons (.v (.sl (.st (.pair I (.pair I I))))) (cI .nil))))))))), .box (cr 7 (cB (cI .nil))), .map I .str, .box (cr 8 (cr 9 (cI (cI .nil)))), .arr .str, .map I .str], [5, 6, 7, 9, 11, 15, 16, 17], (cI (cr 0 (cr 1 (cr 2 (cr 3 (cI (cI (cr 4 .nil))))))))⟩), (.ret, ⟨148, 0, [], [4], (cB .nil)⟩)]
  (.seq (.rq 13 rf09_Same.c) (.cond (.z .std) .std)) (.seq (.drw [.std, .std, .std, .std, .std, .std, .std, .std, .std, .std, .std, .std, .std, .callq [rf09_Same.c]]) (.cond (.z .std) .std))))) (.reg [])))))) (.seq (.reg [.std, .std, .call [deal_Deal_SetCrown.c]]) (.seq (.reg [.std, .callq [deal_Deal_Crown.c]]) (.seq (.reg [.std, .std, .std, .std, .std, .std, .std, .std, .std, .std, .callq [rf09_Right.c], .std, .std, .std, .std, .std, .std, .std, .std, .std, .std, .std, .eqs 81]) .std))))))))))))))
theorem lw12_DealCards.eq : absFn tt 148 lw12_DealCards.ins lw12_DealCards.outs (bodyOf Tryz.f13) lw12_DealCards.ann = lw12_DealCards := by
  funext a
  kernel_rfl
theorem lw12_DealCards.ok : lw12_DealCards.ann.ok Tryz.prog 0 148 :=
  ann_ok (by kernel_rfl) (by kernel_rfl) (cs_cons lw12_lives.s (cs_cons lw12_early.s (cs_cons lw12_begin.s (cs_cons slab_Image.sound (cs_cons rf12_Begin.s (cs_cons lw12_step.s (cs_cons deal_Deal_Card_1.s (cs_cons deal_Deal_SetCard.s (cs_cons deal_Deal_Card_1.s (cs_cons rf09_Same.s (cs_cons rf09_Same.s (cs_cons deal_Deal_SetCrown.s (cs_cons deal_Deal_Crown.s (cs_cons rf09_Right.s cs_nil)))))))))))))) (cs_cons lw12_lives.q (cs_cons lw12_early.q (cs_cons slab_Image.quiet (cs_cons rf09_Same.q (cs_cons rf09_Same.q (cs_cons deal_Deal_Crown.q (cs_cons rf09_Right.q cs_nil)))))))
theorem lw12_DealCards.sound : lw12_DealCards.c.ok Tryz.prog := snd tt_ok mix_ok lw12_DealCards.eq lw12_DealCards.ok Tryz.func13 rfl rfl (by kernel_rfl) (by kernel_rfl) (by decide) (by decide)

end
end Go.Proofs.YtiodpeekbeahlaaGreatDoor.Abs
