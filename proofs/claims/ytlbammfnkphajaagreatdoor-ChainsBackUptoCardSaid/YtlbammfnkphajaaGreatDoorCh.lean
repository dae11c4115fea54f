/- The functions as the abstract machine computes them: printed by gen2.py (own work). -/
import Derived.Test.YtlbammfnkphajaaGreatDoorAbsStrs
import Derived.Test.YtlbammfnkphajaaGreatDoorAbsSortedKeys
import Derived.Test.YtlbammfnkphajaaGreatDoorAbsSlabQuiet
import Derived.Test.YtlbammfnkphajaaGreatDoorAbsFnR
import Derived.Test.YtlbammfnkphajaaGreatDoorProg
import Derived.Test.YtlbammfnkphajaaGreatDoorAbsFn
import Derived.KernelRfl
namespace Go.Proofs.YtlbammfnkphajaaGreatDoor.Abs
open Go Go.Proofs
open _root_.Go.IntKind (i64 u8 u32 u64)
noncomputable section
abbrev I := Ty.int .i64
set_option maxRecDepth 100000
set_option linter.unusedVariables false

def tt : Nat → TI
  | 3 => ⟨.int .i64, 1, 8, [.int .i64 0]⟩
  | 4 => ⟨.bool, 1, 1, [.bool false]⟩
  | 5 => ⟨.int .u8, 1, 1, [.int .u8 0]⟩
  | 9 => ⟨.str, 1, 16, [.string .empty]⟩
  | 22 => ⟨.sl 26, 1, 24, [.slice none 0 0]⟩
  | 24 => ⟨.ptr 88, 1, 8, [.pointer none]⟩
  | 26 => ⟨.sl 3, 1, 24, [.slice none 0 0]⟩
  | 27 => ⟨.sl 81, 1, 24, [.slice none 0 0]⟩
  | 29 => ⟨.st [(3, 0), (3, 1), (3, 2), (3, 3), (26, 4), (3, 5), (3, 6), (27, 7), (3, 8)], 9, 104, [.int .i64 0, .int .i64 0, .int .i64 0, .int .i64 0, .slice none 0 0, .int .i64 0, .int .i64 0, .slice none 0 0, .int .i64 0]⟩
  | 31 => ⟨.int .i64, 1, 8, [.int .i64 0]⟩
  | 40 => ⟨.sl 9, 1, 24, [.slice none 0 0]⟩
  | 47 => ⟨.int .u64, 1, 8, [.int .u64 0]⟩
  | 53 => ⟨.ptr 124, 1, 8, [.pointer none]⟩
  | 56 => ⟨.ptr 166, 1, 8, [.pointer none]⟩
  | 62 => ⟨.st [(3, 0), (3, 1), (3, 2)], 3, 24, [.int .i64 0, .int .i64 0, .int .i64 0]⟩
  | 81 => ⟨.st [(3, 0), (3, 1), (3, 2)], 3, 24, [.int .i64 0, .int .i64 0, .int .i64 0]⟩
  | 84 => ⟨.map 3 9, 1, 8, [.map none]⟩
  | 86 => ⟨.st [(53, 0), (84, 1)], 2, 16, [.pointer none, .map none]⟩
  | 88 => ⟨.st [(86, 0)], 2, 16, [.pointer none, .map none]⟩
  | 96 => ⟨.st [(24, 0), (62, 1), (9, 4)], 5, 48, [.pointer none, .int .i64 0, .int .i64 0, .int .i64 0, .string .empty]⟩
  | 102 => ⟨.st [(26, 0), (26, 1), (22, 2)], 3, 72, [.slice none 0 0, .slice none 0 0, .slice none 0 0]⟩
  | 112 => ⟨.st [(24, 0), (31, 1)], 2, 16, [.pointer none, .int .i64 0]⟩
  | 115 => ⟨.sl 118, 1, 24, [.slice none 0 0]⟩
  | 118 => ⟨.st [(3, 0), (9, 1)], 2, 24, [.int .i64 0, .string .empty]⟩
  | 124 => ⟨.st [(56, 0), (4, 1), (3, 2)], 3, 24, [.pointer none, .bool false, .int .i64 0]⟩
  | 141 => ⟨.sl 5, 1, 24, [.slice none 0 0]⟩
  | 152 => ⟨.st [(24, 0), (62, 1), (31, 4), (26, 5)], 6, 64, [.pointer none, .int .i64 0, .int .i64 0, .int .i64 0, .int .i64 0, .slice none 0 0]⟩
  | 166 => ⟨.st [(40, 0), (84, 1), (3, 2), (3, 3)], 4, 48, [.slice none 0 0, .map none, .int .i64 0, .int .i64 0]⟩
  | 198 => ⟨.arr 256 4, 256, 256, [.bool false, .bool false, .bool false, .bool false, .bool false, .bool false, .bool false, .bool false, .bool false, .bool false, .bool false, .bool false, .bool false, .bool false, .bool false, .bool false, .bool false, .bool false, .bool false, .bool false, .bool false, .bool false, .bool false, .bool false, .bool false, .bool false, .bool false, .bool false, .bool false, .bool false, .bool false, .bool false, .bool false, .bool false, .bool false, .bool false, .bool false, .bool false, .bool false, .bool false, .bool false, .bool false, .bool false, .bool false, .bool false, .bool false, .bool false, .bool false, .bool false, .bool false, .bool false, .bool false, .bool false, .bool false, .bool false, .bool false, .bool false, .bool false, .bool false, .bool false, .bool false, .bool false, .bool false, .bool false, .bool false, .bool false, .bool false, .bool false, .bool false, .bool false, .bool false, .bool false, .bool false, .bool false, .bool false, .bool false, .bool false, .bool false, .bool false, .bool false, .bool false, .bool false, .bool false, .bool false, .bool false, .bool false, .bool false, .bool false, .bool false, .bool false, .bool false, .bool false, .bool false, .bool false, .bool false, .bool false, .bool false, .bool false, .bool false, .bool false, .bool false, .bool false, .bool false, .bool false, .bool false, .bool false, .bool false, .bool false, .bool false, .bool false, .bool false, .bool false, .bool false, .bool false, .bool false, .bool false, .bool false, .bool false, .bool false, .bool false, .bool false, .bool false, .bool false, .bool false, .bool false, .bool false, .bool false, .bool false, .bool false, .bool false, .bool false, .bool false, .bool false, .bool false, .bool false, .bool false, .bool false, .bool false, .bool false, .bool false, .bool false, .bool false, .bool false, .bool false, .bool false, .bool false, .bool false, .bool false, .bool false, .bool false, .bool false, .bool false, .bool false, .bool false, .bool false, .bool false, .bool false, .bool false, .bool false, .bool false, .bool false, .bool false, .bool false, .bool false, .bool false, .bool false, .bool false, .bool false, .bool false, .bool false, .bool false, .bool false, .bool false, .bool false, .bool false, .bool false, .bool false, .bool false, .bool false, .bool false, .bool false, .bool false, .bool false, .bool false, .bool false, .bool false, .bool false, .bool false, .bool false, .bool false, .bool false, .bool false, .bool false, .bool false, .bool false, .bool false, .bool false, .bool false, .bool false, .bool false, .bool false, .bool false, .bool false, .bool false, .bool false, .bool false, .bool false, .bool false, .bool false, .bool false, .bool false, .bool false, .bool false, .bool false, .bool false, .bool false, .bool false, .bool false, .bool false, .bool false, .bool false, .bool false, .bool false, .bool false, .bool false, .bool false, .bool false, .bool false, .bool false, .bool false, .bool false, .bool false, .bool false, .bool false, .bool false, .bool false, .bool false, .bool false, .bool false, .bool false, .bool false, .bool false, .bool false, .bool false, .bool false, .bool false, .bool false, .bool false, .bool false, .bool false, .bool false, .bool false, .bool false, .bool false, .bool false, .bool false]⟩
  | 203 => ⟨.map 3 3, 1, 8, [.map none]⟩
  | 204 => ⟨.sl 205, 1, 24, [.slice none 0 0]⟩
  | 205 => ⟨.func, 1, 8, [.nilFunc]⟩
  | 210 => ⟨.int .u32, 1, 4, [.int .u32 0]⟩
  | 213 => ⟨.int .u64, 1, 8, [.int .u64 0]⟩
  | 225 => ⟨.arr 7 3, 7, 56, [.int .i64 0, .int .i64 0, .int .i64 0, .int .i64 0, .int .i64 0, .int .i64 0, .int .i64 0]⟩
  | _ => ⟨.other, 0, 0, []⟩
theorem tt_ok : TTok Tryz.prog tt := by
  intro t
  unfold tt
  split
  · exact .inr (ti_ok (d := .int .i64) (by kernel_rfl) (by simp [TK.fits]) (by kernel_rfl))
  · exact .inr (ti_ok (d := .bool) (by kernel_rfl) (by simp [TK.fits]) (by kernel_rfl))
  · exact .inr (ti_ok (d := .int .u8) (by kernel_rfl) (by simp [TK.fits]) (by kernel_rfl))
  · exact .inr (ti_ok (d := .string) (by kernel_rfl) (by simp [TK.fits]) (by kernel_rfl))
  · exact .inr (ti_ok (d := .slice 26) (by kernel_rfl) (by simp [TK.fits]) (by kernel_rfl))
  · exact .inr (ti_ok (d := .pointer 88) (by kernel_rfl) (by simp [TK.fits]) (by kernel_rfl))
  · exact .inr (ti_ok (d := .slice 3) (by kernel_rfl) (by simp [TK.fits]) (by kernel_rfl))
  · exact .inr (ti_ok (d := .slice 81) (by kernel_rfl) (by simp [TK.fits]) (by kernel_rfl))
  · exact .inr (ti_ok_st (by kernel_rfl) (by kernel_rfl))
  · exact .inr (ti_ok (d := .int .i64) (by kernel_rfl) (by simp [TK.fits]) (by kernel_rfl))
  · exact .inr (ti_ok (d := .slice 9) (by kernel_rfl) (by simp [TK.fits]) (by kernel_rfl))
  · exact .inr (ti_ok (d := .int .u64) (by kernel_rfl) (by simp [TK.fits]) (by kernel_rfl))
  · exact .inr (ti_ok (d := .pointer 124) (by kernel_rfl) (by simp [TK.fits]) (by kernel_rfl))
  · exact .inr (ti_ok (d := .pointer 166) (by kernel_rfl) (by simp [TK.fits]) (by kernel_rfl))
  · exact .inr (ti_ok_st (by kernel_rfl) (by kernel_rfl))
  · exact .inr (ti_ok_st (by kernel_rfl) (by kernel_rfl))
  · exact .inr (ti_ok (d := .map 3 9) (by kernel_rfl) (by simp [TK.fits]) (by kernel_rfl))
  · exact .inr (ti_ok_st (by kernel_rfl) (by kernel_rfl))
  · exact .inr (ti_ok_st (by kernel_rfl) (by kernel_rfl))
  · exact .inr (ti_ok_st (by kernel_rfl) (by kernel_rfl))
  · exact .inr (ti_ok_st (by kernel_rfl) (by kernel_rfl))
  · exact .inr (ti_ok_st (by kernel_rfl) (by kernel_rfl))
  · exact .inr (ti_ok (d := .slice 118) (by kernel_rfl) (by simp [TK.fits]) (by kernel_rfl))
  · exact .inr (ti_ok_st (by kernel_rfl) (by kernel_rfl))
  · exact .inr (ti_ok_st (by kernel_rfl) (by kernel_rfl))
  · exact .inr (ti_ok (d := .slice 5) (by kernel_rfl) (by simp [TK.fits]) (by kernel_rfl))
  · exact .inr (ti_ok_st (by kernel_rfl) (by kernel_rfl))
  · exact .inr (ti_ok_st (by kernel_rfl) (by kernel_rfl))
  · exact .inr (ti_ok (d := .array 256 4) (by kernel_rfl) (by simp [TK.fits]) (by kernel_rfl))
  · exact .inr (ti_ok (d := .map 3 3) (by kernel_rfl) (by simp [TK.fits]) (by kernel_rfl))
  · exact .inr (ti_ok (d := .slice 205) (by kernel_rfl) (by simp [TK.fits]) (by kernel_rfl))
  · exact .inr (ti_ok_fn (by kernel_rfl) rfl (by kernel_rfl))
  · exact .inr (ti_ok (d := .int .u32) (by kernel_rfl) (by simp [TK.fits]) (by kernel_rfl))
  · exact .inr (ti_ok (d := .int .u64) (by kernel_rfl) (by simp [TK.fits]) (by kernel_rfl))
  · exact .inr (ti_ok (d := .array 7 3) (by kernel_rfl) (by simp [TK.fits]) (by kernel_rfl))
  · exact .inl rfl
theorem mix_ok : Tryz.prog.follows .mixedOrders = true := by kernel_rfl

abbrev tB := List UInt8
abbrev tS := List (List UInt8)
abbrev tL := List (Int × List UInt8)
abbrev tI := List Int
abbrev tC := Int × Int × Int × Int × List Int × Int × Int × (List (Int × Int × Int)) × Int
abbrev tQ := List Int × List Int × List (List Int)
abbrev zC : tC := (0, 0, 0, 0, ([] : List Int), 0, 0, ([] : List (Int × Int × Int)), 0)
abbrev yC : Ty := .st (.pair I (.pair I (.pair I (.pair I (.pair (.sl I) (.pair I (.pair I (.pair (.sl (.st (.pair I (.pair I I)))) I))))))))
abbrev cI (l : Sh) : Sh := .cons (.v I) l
abbrev cS (l : Sh) : Sh := .cons (.v .str) l
abbrev cB (l : Sh) : Sh := .cons (.v .bool) l
abbrev cr (n : Nat) (l : Sh) : Sh := .cons (.ref n) l
abbrev Ann.z (a : Ann) : Ann := .seq (.reg []) a
abbrev Ann.zs (a : Ann) : Ann := .seq .std a
abbrev Ann.rq (n : Nat) (c : Callee') : Ann := .reg (List.replicate n .std ++ [.callq [c]])
theorem kn {Q : Callee' → Prop} : ∀ c ∈ ([] : List Callee'), Q c := cs_nil
theorem kc {Q : Callee' → Prop} {c : Callee'} {l : List Callee'} (h1 : Q c) (t : ∀ x ∈ l, Q x) : ∀ x ∈ c :: l, Q x := cs_cons h1 t
theorem sd {fid : Nat} {fn : Func} {ins : Spec} {outs : List Spec} {X : ins.D → Option (OutD outs)} (N : Nat) (x : Ann) (h3 : ∀ c ∈ x.callees, c.ok Tryz.prog) (h4 : ∀ c ∈ x.quiets, FunQuiet c.F) (hf : Tryz.prog.funcs[fid]? = some fn) (he : absFn tt N ins outs (bodyOf fn) x = X := by (funext a; kernel_rfl)) (h1 : x.specsOk ins.objs.length N = true := by kernel_rfl) (h2 : x.eqTs.all (eqTypeB Tryz.prog) = true := by kernel_rfl) (hb : fn.body = some (bodyOf fn) := by rfl) (hN : fn.ntmps = N := by rfl) (hres : outs.all (fun o => decide (fn.results.size = o.slots.length) && (List.range o.slots.length).all fun i => match fn.results[i]?, o.slots[i]? with | some (.tmp t), some s => t == s | _, _ => false) = true := by kernel_rfl) (hrs : outs.all (fun o => o.ok ins.objs.length N) = true := by kernel_rfl) (hp : ins.vs.len ≤ N := by decide) (hn : fn.name ≠ "runtime.NumGoroutine" := by decide) : (mkC fid ins outs X).ok Tryz.prog :=
  snd tt_ok mix_ok he (ann_ok h1 h2 h3 h4) hf hb hN hres hrs hp hn
theorem sdR {fid : Nat} {fn : Func} {ins : Spec} {outs : List Spec} {X : ins.D → Option (OutD outs)} (N : Nat) (cells : List (Nat × Nat)) (x : Ann) (h3 : ∀ c ∈ x.callees, c.ok Tryz.prog) (h4 : ∀ c ∈ x.quiets, FunQuiet c.F) (hf : Tryz.prog.funcs[fid]? = some fn) (he : absFnR tt N cells ins outs (bodyOf fn) x = X := by (funext a; kernel_rfl)) (h1 : x.specsOk ins.objs.length N = true := by kernel_rfl) (h2 : x.eqTs.all (eqTypeB Tryz.prog) = true := by kernel_rfl) (hb : fn.body = some (bodyOf fn) := by rfl) (hN : fn.ntmps = N := by rfl) (hres : outs.all (fun o => decide (fn.results.size = o.slots.length) && (List.range o.slots.length).all fun i => resOk N cells fn.results[i]? o.slots[i]?) = true := by kernel_rfl) (hcs : cells.all (fun c => decide (c.1 < N)) = true := by kernel_rfl) (hrs : outs.all (fun o => o.ok ins.objs.length (N + cells.length)) = true := by kernel_rfl) (hp : ins.vs.len ≤ N := by decide) (hn : fn.name ≠ "runtime.NumGoroutine" := by decide) : (mkC fid ins outs X).ok Tryz.prog :=
  sndR tt_ok mix_ok he (ann_ok h1 h2 h3 h4) hf hb hN hres hcs hrs hp hn
theorem sdRK {fid : Nat} {fn : Func} {ins : Spec} {outs : List Spec} {X : ins.D → Option (OutD outs)} (N : Nat) (cells : List (Nat × Nat)) (x : Ann) (h3 : ∀ c ∈ x.callees, c.ok Tryz.prog) (h4 : ∀ c ∈ x.quiets, FunQuiet c.F) (h5 : ∀ c ∈ x.chunkFs, ChunkFn Tryz.prog c) (hf : Tryz.prog.funcs[fid]? = some fn) (he : absFnR tt N cells ins outs (bodyOf fn) x = X := by (funext a; kernel_rfl)) (h1 : x.specsOkR ins.objs.length N = true := by kernel_rfl) (h2 : x.eqTs.all (eqTypeB Tryz.prog) = true := by kernel_rfl) (hb : fn.body = some (bodyOf fn) := by rfl) (hN : fn.ntmps = N := by rfl) (hres : outs.all (fun o => decide (fn.results.size = o.slots.length) && (List.range o.slots.length).all fun i => resOk N cells fn.results[i]? o.slots[i]?) = true := by kernel_rfl) (hcs : cells.all (fun c => decide (c.1 < N)) = true := by kernel_rfl) (hrs : outs.all (fun o => o.ok ins.objs.length (N + cells.length)) = true := by kernel_rfl) (hp : ins.vs.len ≤ N := by decide) (hn : fn.name ≠ "runtime.NumGoroutine" := by decide) : (mkC fid ins outs X).ok Tryz.prog :=
  sndR tt_ok mix_ok he (ann_okR h1 h2 h3 h4 h5) hf hb hN hres hcs hrs hp hn


def mould_fits : (tB × Int) → Option (Int) := fun (s0, n1) =>
 ((
  if decide (n1 < 0) = false then
   some (((s0, n1, decide (n1 > 1000))))
  else
   some (((s0, n1, true)))) : Option (tB × Int × Bool)).bind fun (s0, n1, t5) =>
  if t5 = true then
   some 1
  else
   if decide ((s0.length : Int) > n1) = true then
    some 3
   else
    some 0

def mould_fits.c : Callee' := mkC 100 ⟨17, 0, [], [0, 1], (cS (cI .nil))⟩ [⟨17, 0, [], [4], (cI .nil)⟩] mould_fits
theorem mould_fits.q : FunQuiet mould_fits.c.F := mkFun_quiet rfl rfl
theorem mould_fits.s : mould_fits.c.ok Tryz.prog := sd 17 (.z (.seq (.block (.join [(.norm, ⟨17, 0, [], [0, 1, 5], (cS (cI (cB .nil)))⟩)]
  (.reg []) (.cond (.z .std) (.z (.cond (.z .std) .std))))) (.z .std))) kn kn Tryz.func100

def mould_Pad : (tB × Int) → Option (tB × Int) := fun (s0, n1) =>
 (mould_fits (s0, n1)).bind fun r9 =>
  if (r9 != 0) = true then
   some ((([], r9)))
  else
   (strings_Repeat (([0] : tB), i64.wrap (n1 - (s0.length : Int)))).bind fun r18 =>
    if s0.length + r18.length ≤ 9223372036854775807 then
     some (((s0 ++ r18, 0)))
    else none

def mould_Pad.c : Callee' := mkC 54 ⟨20, 0, [], [0, 1], (cS (cI .nil))⟩ [⟨20, 0, [], [4, 5], (cS (cI .nil))⟩] mould_Pad
theorem mould_Pad.q : FunQuiet mould_Pad.c.F := mkFun_quiet rfl rfl
theorem mould_Pad.s : mould_Pad.c.ok Tryz.prog := sd 20 (.z (.seq (.seq (.rq 2 mould_fits.c) (.z (.cond (.z .std) .std))) (.seq (.rq 5 strings_Repeat.c) .std))) (kc mould_fits.s (kc strings_Repeat.sound kn)) (kc mould_fits.q (kc strings_Repeat.quiet kn)) Tryz.func54

def slab_whole : tB → Option tB := fun s0 =>
 if 0 ≤ (if 128 < (s0.length : Int) then 128 else (s0.length : Int)) ∧ (if 128 < (s0.length : Int) then 128 else (s0.length : Int)) ≤ (s0.length : Int) then
  (mould_Pad (s0.take ((if 128 < (s0.length : Int) then 128 else (s0.length : Int))).toNat, 128)).bind fun (r11, r11_2) =>
   some r11
 else none

def slab_whole.c : Callee' := mkC 132 ⟨15, 0, [], [0], (cS .nil)⟩ [⟨15, 0, [], [2], (cS .nil)⟩] slab_whole
theorem slab_whole.q : FunQuiet slab_whole.c.F := mkFun_quiet rfl rfl
theorem slab_whole.s : slab_whole.c.ok Tryz.prog := sd 15 (.z (.seq (.rq 5 mould_Pad.c) (.z .std))) (kc mould_Pad.s kn) (kc mould_Pad.q kn) Tryz.func132

def slab_Load.l1 : (((Int × Int) × tS × tL) × tS × Int × Int) → Option ((((Int × Int) × tS × tL) × tS × Int × Int) ⊕ ((Int × Int) × tS × tL)) := fun (((s3c, s3d), o1, o2), t13, t14, t15) =>
 if decide (t15 < t14) = true then
  if 0 ≤ t15 ∧ t15 < (t13.length : Int) then
   (slab_whole (t13.getD t15.toNat [])).bind fun r25 =>
    if roomOk (o1.length + (([r25] : tS)).length) 16 then
     some (.inl ((((s3c, s3d), o1 ++ (([r25] : tS)), o2), t13, t14, i64.wrap (t15 + 1))))
    else none
  else none
 else
  some (.inr ((((s3c, s3d), o1, o2))))

def slab_Load : tS → Option ((Int × Int) × tS × tL) := fun image0 =>
 if 0 ≤ (if 1000 < (image0.length : Int) then 1000 else (image0.length : Int)) ∧ (if 1000 < (image0.length : Int) then 1000 else (image0.length : Int)) ≤ (image0.length : Int) then
  (loopO slab_Load.l1 ((((0, (-1)), [], ([] : tL)), image0.take ((if 1000 < (image0.length : Int) then 1000 else (image0.length : Int))).toNat, ((image0.take ((if 1000 < (image0.length : Int) then 1000 else (image0.length : Int))).toNat).length : Int), 0))).bind fun ((s3c, s3d), o1, o2) =>
   some ((((s3c, s3d), o1, o2)))
 else none

def slab_Load.c : Callee' := mkC 80 ⟨32, 0, [], [0], (.cons (.v (.sl .str)) .nil)⟩ [⟨32, 0, [.box (cr 1 (cr 2 (cI (cI .nil)))), .arr .str, .map I .str], [2], (cr 0 .nil)⟩] slab_Load
theorem slab_Load.s : slab_Load.c.ok Tryz.prog := sd 32 (.z (.seq (.reg [.mp I .str]) (.seq (.z (.block (.loop ⟨32, 0, [.box (cr 1 (cr 2 (cI (cI .nil)))), .arr .str, .map I .str], [3, 13, 14, 15], (cr 0 (.cons (.v (.sl .str)) (cI (cI .nil))))⟩ [(.exit 0, ⟨32, 0, [.box (cr 1 (cr 2 (cI (cI .nil)))), .arr .str, .map I .str], [3], (cr 0 .nil)⟩)]
  (.z (.seq (.cond .std .std) (.seq (.block (.z (.drw [.std, .std, .std, .std, .std, .std, .callq [slab_whole.c], .inl .str, .obj .str]))) (.reg []))))))) (.z .std)))) (kc slab_whole.s kn) (kc slab_whole.q kn) Tryz.func80

def slab_New : Int → Option ((Int × Int) × tS × tL) := fun n0 =>
 if 0 ≤ (if 1000 < (if 0 > n0 then 0 else n0) then 1000 else (if 0 > n0 then 0 else n0)) ∧ (if 1000 < (if 0 > n0 then 0 else n0) then 1000 else (if 0 > n0 then 0 else n0)) ≤ (if 1000 < (if 0 > n0 then 0 else n0) then 1000 else (if 0 > n0 then 0 else n0)) ∧ (if 1000 < (if 0 > n0 then 0 else n0) then 1000 else (if 0 > n0 then 0 else n0)) * (16 : Nat) ≤ 140737488355328 ∧ (if 1000 < (if 0 > n0 then 0 else n0) then 1000 else (if 0 > n0 then 0 else n0)) ≤ 9223372036854775807 then
  (slab_Load (List.replicate ((if 1000 < (if 0 > n0 then 0 else n0) then 1000 else (if 0 > n0 then 0 else n0))).toNat ([] : tB))).bind fun ((r7, r7_2), r7_3, r7_4) =>
   some ((((r7, r7_2), r7_3, r7_4)))
 else none

def slab_New.c : Callee' := mkC 38 ⟨8, 0, [], [0], (cI .nil)⟩ [⟨8, 0, [.box (cr 1 (cr 2 (cI (cI .nil)))), .arr .str, .map I .str], [2], (cr 0 .nil)⟩] slab_New
theorem slab_New.s : slab_New.c.ok Tryz.prog := sd 8 (.z (.seq (.reg [.std, .std, .std, .obj .str, .call [slab_Load.c]]) .std)) (kc slab_Load.s kn) kn Tryz.func38

def slab_Slab_Size : (tS × (tL) × Int × Int) → Option (Int) := fun s0 =>
 some (((s0.1.length : Int)))

def slab_Slab_Size.c : Callee' := mkC 77 ⟨10, 0, [], [0], (.cons (.v (.ptr (.pair (.sl .str) (.pair (.map I .str) (.pair I I))))) .nil)⟩ [⟨10, 0, [], [2], (cI .nil)⟩] slab_Slab_Size
theorem slab_Slab_Size.q : FunQuiet slab_Slab_Size.c.F := mkFun_quiet rfl rfl
theorem slab_Slab_Size.s : slab_Slab_Size.c.ok Tryz.prog := sd 10 (.z (.seq (.seq (.reg [.std, .obj .bool]) (.cond (.z .std) .std)) (.z .std))) kn kn Tryz.func77

def slab_Slab_there : ((tS × (tL) × Int × Int) × Int) → Option (Bool) := fun (s0, i1) =>
 if decide (i1 ≥ 0) = true then
  some ((decide (i1 < (s0.1.length : Int))))
 else
  some false

def slab_Slab_there.c : Callee' := mkC 159 ⟨20, 0, [], [0, 1], (.cons (.v (.ptr (.pair (.sl .str) (.pair (.map I .str) (.pair I I))))) (cI .nil))⟩ [⟨20, 0, [], [4], (cB .nil)⟩] slab_Slab_there
theorem slab_Slab_there.q : FunQuiet slab_Slab_there.c.F := mkFun_quiet rfl rfl
theorem slab_Slab_there.s : slab_Slab_there.c.ok Tryz.prog := sd 20 (.z (.seq (.reg [.std, .obj .bool]) .std)) kn kn Tryz.func159

def slab_Slab_Read : ((tS × (tL) × Int × Int) × Int) → Option tB := fun (s0, i1) =>
 (slab_Slab_there (s0, i1)).bind fun r9 =>
  if (!r9) = true then
   some []
  else
   if (mget (K := I) (V := .str) s0.2.1 i1).isSome = true then
    some ((((mget (K := I) (V := .str) s0.2.1 i1).getD [])))
   else
    if 0 ≤ i1 ∧ i1 < (s0.1.length : Int) then
     some ((s0.1.getD i1.toNat []))
    else none

def slab_Slab_Read.c : Callee' := mkC 121 ⟨29, 0, [], [0, 1], (.cons (.v (.ptr (.pair (.sl .str) (.pair (.map I .str) (.pair I I))))) (cI .nil))⟩ [⟨29, 0, [], [4], (cS .nil)⟩] slab_Slab_Read
theorem slab_Slab_Read.q : FunQuiet slab_Slab_Read.c.F := mkFun_quiet rfl rfl
theorem slab_Slab_Read.s : slab_Slab_Read.c.ok Tryz.prog := sd 29 (.z (.seq (.seq (.rq 2 slab_Slab_there.c) (.cond (.z .std) .std)) (.seq (.z (.z (.cond (.z .std) .std))) (.z .std)))) (kc slab_Slab_there.s kn) (kc slab_Slab_there.q kn) Tryz.func121

def bits_Mul64 : (Int × Int) → Option (Int × Int) := fun (x0, y1) =>
 some (((u64.wrap ((u64.wrap ((u64.wrap ((Int.fdiv x0 (2 ^ 32)) * (Int.fdiv y1 (2 ^ 32)))) + (Int.fdiv (u64.wrap ((u64.wrap ((Int.fdiv x0 (2 ^ 32)) * (bitsOp .and .u64 y1 4294967295))) + (Int.fdiv (u64.wrap ((bitsOp .and .u64 x0 4294967295) * (bitsOp .and .u64 y1 4294967295))) (2 ^ 32)))) (2 ^ 32)))) + (Int.fdiv (u64.wrap ((bitsOp .and .u64 (u64.wrap ((u64.wrap ((Int.fdiv x0 (2 ^ 32)) * (bitsOp .and .u64 y1 4294967295))) + (Int.fdiv (u64.wrap ((bitsOp .and .u64 x0 4294967295) * (bitsOp .and .u64 y1 4294967295))) (2 ^ 32)))) 4294967295) + (u64.wrap ((bitsOp .and .u64 x0 4294967295) * (Int.fdiv y1 (2 ^ 32)))))) (2 ^ 32))), u64.wrap (x0 * y1))))

def bits_Mul64.c : Callee' := mkC 176 ⟨51, 0, [], [0, 1], (.cons (.v (.int .u64)) (.cons (.v (.int .u64)) .nil))⟩ [⟨51, 0, [], [4, 5], (.cons (.v (.int .u64)) (.cons (.v (.int .u64)) .nil))⟩] bits_Mul64
theorem bits_Mul64.q : FunQuiet bits_Mul64.c.F := mkFun_quiet rfl rfl
theorem bits_Mul64.s : bits_Mul64.c.ok Tryz.prog := sd 51 (.z (.z (.z (.z (.z (.z (.z (.z (.z (.z (.z (.z .std)))))))))))) kn kn Tryz.func176

def bits_Mul : (Int × Int) → Option (Int × Int) := fun (x0, y1) =>
 (bits_Mul64 (x0, y1)).bind fun (r25, r25_2) =>
  some (((r25, r25_2)))

def bits_Mul.c : Callee' := mkC 147 ⟨30, 0, [], [0, 1], (.cons (.v (.int .u64)) (.cons (.v (.int .u64)) .nil))⟩ [⟨30, 0, [], [4, 5], (.cons (.v (.int .u64)) (.cons (.v (.int .u64)) .nil))⟩] bits_Mul
theorem bits_Mul.q : FunQuiet bits_Mul.c.F := mkFun_quiet rfl rfl
theorem bits_Mul.s : bits_Mul.c.ok Tryz.prog := sd 30 (.z (.seq (.cond (.z (.z .std)) .std) (.seq (.rq 2 bits_Mul64.c) (.z .std)))) (kc bits_Mul64.s kn) (kc bits_Mul64.q kn) Tryz.func147

def slices_Repeat_int_int.l1 : (tI × Int) → Option ((tI × Int) ⊕ tI) := fun (newslice7, n8) =>
 if decide (n8 < (newslice7.length : Int)) = true then
  if 0 ≤ n8 ∧ n8 ≤ (newslice7.length : Int) then
   if 0 ≤ n8 ∧ n8 ≤ (newslice7.length : Int) then
    some (.inl ((copyRow newslice7 (((newslice7).drop 0).take ((n8 - 0).toNat)) n8.toNat (((newslice7.length : Int) - n8).toNat), i64.wrap (n8 + ((min (((newslice7.length : Int) - n8).toNat) ((((newslice7).drop 0).take ((n8 - 0).toNat)).length) : Nat) : Int)))))
   else none
  else none
 else
  some (.inr newslice7)

def slices_Repeat_int_int : (tI × Int) → Option tI := fun (x0, count1) =>
 if decide (count1 < 0) = true then none else
 (bits_Mul (u64.wrap ((x0.length : Int)), u64.wrap (count1))).bind fun (r18, r18_2) =>
  if decide (r18 > 0) = false then
   if decide (r18_2 > 9223372036854775807) = true then none else
   if 0 ≤ i64.wrap (r18_2) ∧ i64.wrap (r18_2) ≤ i64.wrap (r18_2) ∧ i64.wrap (r18_2) * (8 : Nat) ≤ 140737488355328 ∧ i64.wrap (r18_2) ≤ 9223372036854775807 then
    (loopO slices_Repeat_int_int.l1 ((copyRow (List.replicate (i64.wrap (r18_2)).toNat (0 : Int)) x0 0 ((List.replicate (i64.wrap (r18_2)).toNat (0 : Int)).length), ((min ((List.replicate (i64.wrap (r18_2)).toNat (0 : Int)).length) x0.length : Nat) : Int)))).bind fun newslice7 =>
     some newslice7
   else none
  else none

def slices_Repeat_int_int.c : Callee' := mkC 122 ⟨48, 0, [], [0, 1], (.cons (.v (.sl I)) (cI .nil))⟩ [⟨48, 0, [], [4], (.cons (.v (.sl I)) .nil)⟩] slices_Repeat_int_int
theorem slices_Repeat_int_int.q : FunQuiet slices_Repeat_int_int.c.F := mkFun_quiet rfl rfl
theorem slices_Repeat_int_int.s : slices_Repeat_int_int.c.ok Tryz.prog := sd 48 (.z (.seq (.z (.cond (.reg []) .std)) (.seq (.rq 5 bits_Mul.c) (.seq (.z (.cond (.reg []) .std)) (.seq (.reg [.std, .std, .obj I]) (.seq (.reg [.std, .std, .obj I]) (.seq (.block (.loop ⟨48, 0, [.arr I], [7, 8], (cr 0 (cI .nil))⟩ [(.exit 0, ⟨48, 0, [.arr I], [7], (cr 0 .nil)⟩)]
  (.seq (.z (.cond .std .std)) (.block (.drw [.std, .std, .std, .std, .std, .std, .std, .obj I]))))) (.z .std)))))))) (kc bits_Mul.s kn) (kc bits_Mul.q kn) Tryz.func122

def mould_Size.l1 : (Int × tI × Int × Int) → Option ((Int × tI × Int × Int) ⊕ (Int ⊕ Int)) := fun (n3, t6, t7, t8) =>
 if decide (t8 < t7) = true then
  if 0 ≤ t8 ∧ t8 < (t6.length : Int) then
   if (t6.getD t8.toNat 0 == 1) = true then
    some (.inl ((i64.wrap (n3 + (t6.getD t8.toNat 0)), t6, t7, i64.wrap (t8 + 1))))
   else
    if (t6.getD t8.toNat 0 == 2) = true then
     some (.inl ((i64.wrap (n3 + (t6.getD t8.toNat 0)), t6, t7, i64.wrap (t8 + 1))))
    else
     if (t6.getD t8.toNat 0 == 4) = true then
      some (.inl ((i64.wrap (n3 + (t6.getD t8.toNat 0)), t6, t7, i64.wrap (t8 + 1))))
     else
      some (.inr (.inr (-1)))
  else none
 else
  some (.inr (.inl n3))

def mould_Size : tI → Option (Int) := fun widths0 =>
 (loopO mould_Size.l1 ((0, widths0, (widths0.length : Int), 0))).bind fun d => match d with
 | .inl n3 =>
  some n3
 | .inr t2 =>
  some t2

def mould_Size.c : Callee' := mkC 125 ⟨22, 0, [], [0], (.cons (.v (.sl I)) .nil)⟩ [⟨22, 0, [], [2], (cI .nil)⟩] mould_Size
theorem mould_Size.q : FunQuiet mould_Size.c.F := mkFun_quiet rfl rfl
theorem mould_Size.s : mould_Size.c.ok Tryz.prog := sd 22 (.z (.z (.seq (.z (.block (.loop ⟨22, 0, [], [3, 6, 7, 8], (cI (.cons (.v (.sl I)) (cI (cI .nil))))⟩ [(.exit 0, ⟨22, 0, [], [3], (cI .nil)⟩), (.ret, ⟨22, 0, [], [2], (cI .nil)⟩)]
  (.z (.seq (.cond .std .std) (.seq (.block (.z (.z (.block (.seq (.z (.cond .std (.z (.cond .std (.reg []))))) (.cond (.reg []) (.z .std))))))) (.reg []))))))) (.z .std)))) kn kn Tryz.func125

def mould_Read.l2 : (tI × tB × Int × Int × tI × Int × Int × tI × Int × Int) → Option ((tI × tB × Int × Int × tI × Int × Int × tI × Int × Int) ⊕ (tI × tB × Int × tI × Int × Int)) := fun (values7, s1, i8, w9, t25, t26, t27, t35, t36, t37) =>
 if decide (t37 < t36) = true then
  if 0 ≤ t37 ∧ t37 < (t35.length : Int) then
   if 0 ≤ i8 ∧ i8 < (values7.length : Int) then
    if 0 ≤ i64.wrap (8 * t37) then
     if 0 ≤ i8 ∧ i8 < (values7.length : Int) then
      some (.inl ((values7.set i8.toNat (bitsOp .or .i64 (values7.getD i8.toNat 0) (i64.wrap (i64.wrap (t35.getD t37.toNat 0) * 2 ^ (min (i64.wrap (8 * t37)).toNat 64)))), s1, i8, w9, t25, t26, t27, t35, t36, i64.wrap (t37 + 1))))
     else none
    else none
   else none
  else none
 else
  some (.inr (((values7, s1, w9, t25, t26, t27))))

def mould_Read.l1 : (tI × tB × tI × Int × Int) → Option ((tI × tB × tI × Int × Int) ⊕ tI) := fun (values7, s1, t25, t26, t27) =>
 if decide (t27 < t26) = true then
  if 0 ≤ t27 ∧ t27 < (t25.length : Int) then
   if 0 ≤ t25.getD t27.toNat 0 ∧ t25.getD t27.toNat 0 ≤ (s1.length : Int) then
    (loopO mould_Read.l2 ((values7, s1, t27, t25.getD t27.toNat 0, t25, t26, t27, (s1.take (t25.getD t27.toNat 0).toNat).map fun b => (b.toNat : Int), (((s1.take (t25.getD t27.toNat 0).toNat).map fun b => (b.toNat : Int)).length : Int), 0))).bind fun (values7, s1, w9, t25, t26, t27) =>
     if 0 ≤ w9 ∧ w9 ≤ (s1.length : Int) then
      some (.inl ((values7, s1.drop w9.toNat, t25, t26, i64.wrap (t27 + 1))))
     else none
   else none
  else none
 else
  some (.inr values7)

def mould_Read : (tI × tB) → Option (tI × Int) := fun (widths0, s1) =>
 (mould_Size widths0).bind fun r13 =>
  if decide (r13 < 0) = true then
   some (((([] : tI), 1)))
  else
   if decide ((s1.length : Int) < r13) = true then
    some (((([] : tI), 2)))
   else
    if 0 ≤ (widths0.length : Int) ∧ (widths0.length : Int) ≤ (widths0.length : Int) ∧ (widths0.length : Int) * (8 : Nat) ≤ 140737488355328 ∧ (widths0.length : Int) ≤ 9223372036854775807 then
     (loopO mould_Read.l1 ((List.replicate ((widths0.length : Int)).toNat (0 : Int), s1, widths0, (widths0.length : Int), 0))).bind fun values7 =>
      some (((values7, 0)))
    else none

def mould_Read.c : Callee' := mkC 123 ⟨59, 0, [], [0, 1], (.cons (.v (.sl I)) (cS .nil))⟩ [⟨59, 0, [], [4, 5], (.cons (.v (.sl I)) (cI .nil))⟩] mould_Read
theorem mould_Read.q : FunQuiet mould_Read.c.F := mkFun_quiet rfl rfl
theorem mould_Read.s : mould_Read.c.ok Tryz.prog := sd 59 (.z (.seq (.reg [.std, .callq [mould_Size.c]]) (.seq (.block (.z (.cond (.z .std) (.z (.cond (.z .std) .std))))) (.seq (.reg [.std, .std, .obj I]) (.seq (.z (.block (.loop ⟨59, 0, [.arr I], [1, 7, 25, 26, 27], (cS (cr 0 (.cons (.v (.sl I)) (cI (cI .nil)))))⟩ [(.exit 1, ⟨59, 0, [.arr I], [7], (cr 0 .nil)⟩)]
  (.z (.seq (.cond .std .std) (.seq (.block (.z (.seq (.seq (.reg [.std, .std, .std, .inl (.int .u8)]) (.block (.loop ⟨59, 0, [.arr I], [1, 7, 8, 9, 25, 26, 27, 35, 36, 37], (cS (cr 0 (cI (cI (.cons (.v (.sl I)) (cI (cI (.cons (.v (.sl (.int .u8))) (cI (cI .nil))))))))))⟩ [(.exit 3, ⟨59, 0, [.arr I], [1, 7, 9, 25, 26, 27], (cS (cr 0 (cI (.cons (.v (.sl I)) (cI (cI .nil))))))⟩)]
  (.z (.seq (.cond .std .std) (.seq (.block (.z (.drw [.std, .std, .std, .std, .std, .inl (.int .u8)]))) (.reg []))))))) (.reg [])))) (.reg []))))))) (.z .std)))))) (kc mould_Size.s kn) (kc mould_Size.q kn) Tryz.func123

def strings_trimRightByte.l1 : (tB × Int) → Option ((tB × Int) ⊕ tB) := fun (s0, c1) =>
 if decide ((s0.length : Int) > 0) = true then
  if 0 ≤ i64.wrap ((s0.length : Int) - 1) ∧ i64.wrap ((s0.length : Int) - 1) < (s0.length : Int) then
   if (((s0.getD ((i64.wrap ((s0.length : Int) - 1)).toNat) 0).toNat : Int) == c1) = true then
    if 0 ≤ i64.wrap ((s0.length : Int) - 1) ∧ i64.wrap ((s0.length : Int) - 1) ≤ (s0.length : Int) then
     some (.inl ((s0.take (i64.wrap ((s0.length : Int) - 1)).toNat, c1)))
    else none
   else
    some (.inr s0)
  else none
 else
  some (.inr s0)

def strings_trimRightByte : (tB × Int) → Option tB := fun (s0, c1) =>
 (loopO strings_trimRightByte.l1 ((s0, c1))).bind fun s0 =>
  some s0

def strings_trimRightByte.c : Callee' := mkC 161 ⟨23, 0, [], [0, 1], (cS (.cons (.v (.int .u8)) .nil))⟩ [⟨23, 0, [], [4], (cS .nil)⟩] strings_trimRightByte
theorem strings_trimRightByte.q : FunQuiet strings_trimRightByte.c.F := mkFun_quiet rfl rfl
theorem strings_trimRightByte.s : strings_trimRightByte.c.ok Tryz.prog := sd 23 (.z (.seq (.block (.loop ⟨23, 0, [], [0, 1], (cS (.cons (.v (.int .u8)) .nil))⟩ [(.exit 0, ⟨23, 0, [], [0], (cS .nil)⟩)]
  (.seq (.z (.cond .std .std)) (.block (.reg []))))) (.z .std))) kn kn Tryz.func161

def strings_trimLeftByte.l1 : (tB × Int) → Option ((tB × Int) ⊕ tB) := fun (s0, c1) =>
 if decide ((s0.length : Int) > 0) = true then
  if 0 ≤ (0 : Int) ∧ (0 : Int) < (s0.length : Int) then
   if (((s0.getD 0 0).toNat : Int) == c1) = true then
    if 0 ≤ (1 : Int) ∧ (1 : Int) ≤ (s0.length : Int) then
     some (.inl ((s0.drop 1, c1)))
    else none
   else
    some (.inr s0)
  else none
 else
  some (.inr s0)

def strings_trimLeftByte : (tB × Int) → Option tB := fun (s0, c1) =>
 (loopO strings_trimLeftByte.l1 ((s0, c1))).bind fun s0 =>
  some s0

def strings_trimLeftByte.c : Callee' := mkC 160 ⟨17, 0, [], [0, 1], (cS (.cons (.v (.int .u8)) .nil))⟩ [⟨17, 0, [], [4], (cS .nil)⟩] strings_trimLeftByte
theorem strings_trimLeftByte.q : FunQuiet strings_trimLeftByte.c.F := mkFun_quiet rfl rfl
theorem strings_trimLeftByte.s : strings_trimLeftByte.c.ok Tryz.prog := sd 17 (.z (.seq (.block (.loop ⟨17, 0, [], [0, 1], (cS (.cons (.v (.int .u8)) .nil))⟩ [(.exit 0, ⟨17, 0, [], [0], (cS .nil)⟩)]
  (.seq (.z (.cond .std .std)) (.block (.reg []))))) (.z .std))) kn kn Tryz.func160

def strings_Trim : (tB × tB) → Option tB := fun (s0, cutset1) =>
 if (s0 == []) = false then
  if (cutset1 == []) = true then
   some s0
  else
   ((
    if ((cutset1.length : Int) == 1) = true then
     if 0 ≤ (0 : Int) ∧ (0 : Int) < (cutset1.length : Int) then
      some (((s0, cutset1, decide (((cutset1.getD 0 0).toNat : Int) < 128))))
     else none
    else
     some (((s0, cutset1, false)))) : Option (tB × tB × Bool)).bind fun (s0, cutset1, t21) =>
    if t21 = true then
     if 0 ≤ (0 : Int) ∧ (0 : Int) < (cutset1.length : Int) then
      (strings_trimRightByte (s0, ((cutset1.getD 0 0).toNat : Int))).bind fun r25 =>
       if 0 ≤ (0 : Int) ∧ (0 : Int) < (cutset1.length : Int) then
        (strings_trimLeftByte (r25, ((cutset1.getD 0 0).toNat : Int))).bind fun r28 =>
         some r28
       else none
     else none
    else none
 else
  some s0

def strings_Trim.c : Callee' := mkC 124 ⟨43, 0, [], [0, 1], (cS (cS .nil))⟩ [⟨43, 0, [], [4], (cS .nil)⟩] strings_Trim
theorem strings_Trim.q : FunQuiet strings_Trim.c.F := mkFun_quiet rfl rfl
theorem strings_Trim.s : strings_Trim.c.ok Tryz.prog := sd 43 (.z (.seq (.z (.cond (.z .std) .std)) (.seq (.join [(.norm, ⟨43, 0, [], [0, 1, 21], (cS (cS (cB .nil)))⟩)]
  (.reg []) (.cond (.seq (.drw [.std, .std, .std, .callq [strings_trimRightByte.c], .std, .std, .callq [strings_trimLeftByte.c]]) .std) .std)) (.seq (.z (.z (.cond (.z .std) .std))) (.z .std))))) (kc strings_trimRightByte.s (kc strings_trimLeftByte.s kn)) (kc strings_trimRightByte.q (kc strings_trimLeftByte.q kn)) Tryz.func124

def log_Log_free : (((tS × (tL) × Int × Int) × Bool × Int) × Int) → Option (Bool) := fun (l0, i1) =>
 if decide (i1 ≥ 0) = true then
  (slab_Slab_Size l0.1).bind fun r13 =>
   if decide (i1 < r13) = true then
    if decide (i1 < 1) = false then
     some ((decide (i1 ≥ 42)))
    else
     some true
   else
    some false
 else
  some false

def log_Log_free.c : Callee' := mkC 167 ⟨24, 0, [], [0, 1], (.cons (.v (.ptr (.pair (.ptr (.pair (.sl .str) (.pair (.map I .str) (.pair I I)))) (.pair .bool I)))) (cI .nil))⟩ [⟨24, 0, [], [4], (cB .nil)⟩] log_Log_free
theorem log_Log_free.q : FunQuiet log_Log_free.c.F := mkFun_quiet rfl rfl
theorem log_Log_free.s : log_Log_free.c.ok Tryz.prog := sd 24 (.z (.seq (.rq 8 slab_Slab_Size.c) .std)) (kc slab_Slab_Size.s kn) (kc slab_Slab_Size.q kn) Tryz.func167

def log_Log_right.l1 : ((List (Int × Int)) × ((tS × (tL) × Int × Int) × Bool × Int) × (tL) × Int × Int) → Option (((List (Int × Int)) × ((tS × (tL) × Int × Int) × Bool × Int) × (tL) × Int × Int) ⊕ (Unit ⊕ Bool)) := fun (seen5, l0, t9, t10, t11) =>
 if decide (t11 < t10) = true then
  if 0 ≤ t11 ∧ t11 < (t9.length : Int) then
   (log_Log_free (l0, (t9.getD t11.toNat (0, [])).1)).bind fun r23 =>
    if (!r23) = false then
     if ((((t9.getD t11.toNat (0, [])).2).length : Int) != 128) = false then
      if decide (((mget (K := I) (V := I) (mput (K := I) (V := I) seen5 ((t9.getD t11.toNat (0, [])).1) (i64.wrap (((mget (K := I) (V := I) seen5 ((t9.getD t11.toNat (0, [])).1)).getD 0) + 1))) ((t9.getD t11.toNat (0, [])).1)).getD 0) > 1) = true then
       some (.inr (.inr false))
      else
       some (.inl ((mput (K := I) (V := I) seen5 ((t9.getD t11.toNat (0, [])).1) (i64.wrap (((mget (K := I) (V := I) seen5 ((t9.getD t11.toNat (0, [])).1)).getD 0) + 1)), l0, t9, t10, i64.wrap (t11 + 1))))
     else
      some (.inr (.inr false))
    else
     some (.inr (.inr false))
  else none
 else
  some (.inr (.inl ()))

def log_Log_right : (((tS × (tL) × Int × Int) × Bool × Int) × tL) → Option (Bool) := fun (l0, c1) =>
 (loopO log_Log_right.l1 ((([] : List (Int × Int)), l0, c1, (c1.length : Int), 0))).bind fun d => match d with
 | .inl _ =>
  some true
 | .inr t4 =>
  some t4

def log_Log_right.c : Callee' := mkC 126 ⟨39, 0, [], [0, 1], (.cons (.v (.ptr (.pair (.ptr (.pair (.sl .str) (.pair (.map I .str) (.pair I I)))) (.pair .bool I)))) (.cons (.v (.sl (.st (.pair I .str)))) .nil))⟩ [⟨39, 0, [], [4], (cB .nil)⟩] log_Log_right
theorem log_Log_right.q : FunQuiet log_Log_right.c.F := mkFun_quiet rfl rfl
theorem log_Log_right.s : log_Log_right.c.ok Tryz.prog := sd 39 (.z (.seq (.reg [.mp I I]) (.seq (.z (.block (.loop ⟨39, 0, [.map I I], [0, 5, 9, 10, 11], (.cons (.v (.ptr (.pair (.ptr (.pair (.sl .str) (.pair (.map I .str) (.pair I I)))) (.pair .bool I)))) (cr 0 (.cons (.v (.sl (.st (.pair I .str)))) (cI (cI .nil)))))⟩ [(.exit 0, ⟨39, 0, [], [], .nil⟩), (.ret, ⟨39, 0, [], [4], (cB .nil)⟩)]
  (.z (.seq (.cond .std .std) (.seq (.block (.z (.z (.seq (.rq 3 log_Log_free.c) (.cond (.z .std) .std))))) (.reg []))))))) (.z .std)))) (kc log_Log_free.s kn) (kc log_Log_free.q kn) Tryz.func126

def log_Log_read_2.l1 : (((Bool × Int) × (Int × Int) × tS × (tL) × tL) × tI × Int × Int) → Option ((((Bool × Int) × (Int × Int) × tS × (tL) × tL) × tI × Int × Int) ⊕ ((Bool × Int) × (Int × Int) × tS × (tL) × tL)) := fun (((l0b, l0c), (o1c, o1d), o2, o3, c9), t43, t44, t45) =>
 if decide (t45 < t44) = true then
  if 0 ≤ t45 ∧ t45 < (t43.length : Int) then
   (slab_Slab_Read ((o2, o3, o1c, o1d), i64.wrap (2 + t45))).bind fun r58 =>
    if roomOk (c9.length + (([(t43.getD t45.toNat 0, r58)] : tL)).length) 24 then
     some (.inl ((((l0b, l0c), (o1c, o1d), o2, o3, c9 ++ (([(t43.getD t45.toNat 0, r58)] : tL))), t43, t44, i64.wrap (t45 + 1))))
    else none
  else none
 else
  some (.inr ((((l0b, l0c), (o1c, o1d), o2, o3, c9))))

def log_Log_read_2 : ((Bool × Int) × (Int × Int) × tS × tL) → Option (((Bool × Int) × (Int × Int) × tS × tL) × (tL) × Bool) := fun ((l0b, l0c), (o1c, o1d), o2, o3) =>
 (slab_Slab_Read ((o2, o3, o1c, o1d), 1)).bind fun r16 =>
  if 0 ≤ (0 : Int) ∧ (0 : Int) < (r16.length : Int) then
   if decide (i64.wrap (((r16.getD 0 0).toNat : Int)) > 40) = true then
    some (((((l0b, l0c), (o1c, o1d), o2, o3), ([] : tL), false)))
   else
    (slices_Repeat_int_int (([2] : tI), i64.wrap (((r16.getD 0 0).toNat : Int)))).bind fun r24 =>
     if 0 ≤ (1 : Int) ∧ (1 : Int) ≤ (r16.length : Int) then
      (mould_Read (r24, r16.drop 1)).bind fun (r29, r29_2) =>
       if (r29_2 != 0) = false then
        (mould_Size r24).bind fun r37 =>
         if 0 ≤ i64.wrap (1 + r37) ∧ i64.wrap (1 + r37) ≤ (r16.length : Int) then
          (strings_Trim (r16.drop (i64.wrap (1 + r37)).toNat, ([0] : tB))).bind fun r40 =>
           if (!(r40 == [])) = true then
            some (((((l0b, l0c), (o1c, o1d), o2, o3), ([] : tL), false)))
           else
            (loopO log_Log_read_2.l1 ((((l0b, l0c), (o1c, o1d), o2, o3, []), r29, (r29.length : Int), 0))).bind fun ((l0b, l0c), (o1c, o1d), o2, o3, c9) =>
             (log_Log_right (((o2, o3, o1c, o1d), l0b, l0c), c9)).bind fun r66 =>
              some (((((l0b, l0c), (o1c, o1d), o2, o3), c9, r66)))
         else none
       else
        some (((((l0b, l0c), (o1c, o1d), o2, o3), ([] : tL), false)))
     else none
  else none

def log_Log_read_2.c : Callee' := mkC 78 ⟨67, 0, [.box (cr 1 (cB (cI .nil))), .box (cr 2 (cr 3 (cI (cI .nil)))), .arr .str, .map I .str], [0], (cr 0 .nil)⟩ [⟨67, 4, [.box (cr 1 (cB (cI .nil))), .box (cr 2 (cr 3 (cI (cI .nil)))), .arr .str, .map I .str], [2, 3], (.cons (.v (.sl (.st (.pair I .str)))) (cB .nil))⟩] log_Log_read_2
theorem log_Log_read_2.s : log_Log_read_2.c.ok Tryz.prog := sd 67 (.z (.seq (.rq 4 slab_Slab_Read.c) (.z (.seq (.z (.cond (.z .std) .std)) (.seq (.reg [.inl I, .std, .callq [slices_Repeat_int_int.c]]) (.seq (.rq 3 mould_Read.c) (.seq (.seq (.reg [.std, .std, .std, .std, .std, .callq [mould_Size.c], .std, .std, .callq [strings_Trim.c]]) (.cond (.z .std) .std)) (.z (.seq (.z (.block (.loop ⟨67, 4, [.box (cr 1 (cB (cI .nil))), .box (cr 2 (cr 3 (cI (cI .nil)))), .arr .str, .map I .str, .arr (.st (.pair I .str))], [0, 9, 43, 44, 45], (cr 0 (cr 4 (.cons (.v (.sl I)) (cI (cI .nil)))))⟩ [(.exit 0, ⟨67, 4, [.box (cr 1 (cB (cI .nil))), .box (cr 2 (cr 3 (cI (cI .nil)))), .arr .str, .map I .str, .arr (.st (.pair I .str))], [0, 9], (cr 0 (cr 4 .nil))⟩)]
  (.z (.seq (.cond .std .std) (.seq (.block (.z (.reg [.std, .std, .std, .std, .std, .std, .std, .std, .callq [slab_Slab_Read.c], .std, .inl (.st (.pair I .str)), .obj (.st (.pair I .str))]))) (.reg []))))))) (.seq (.rq 3 log_Log_right.c) .std)))))))))) (kc slab_Slab_Read.s (kc slices_Repeat_int_int.s (kc mould_Read.s (kc mould_Size.s (kc strings_Trim.s (kc slab_Slab_Read.s (kc log_Log_right.s kn))))))) (kc slab_Slab_Read.q (kc slices_Repeat_int_int.q (kc mould_Read.q (kc mould_Size.q (kc strings_Trim.q (kc slab_Slab_Read.q (kc log_Log_right.q kn))))))) Tryz.func78

def slab_Slab_call : ((Int × Int) × tS × tL) → Option (((Int × Int) × tS × tL) × Int) := fun ((s0c, s0d), o1, o2) =>
 ((
  if (s0d == 0) = true then
   some (.inr (((((i64.wrap (s0c + 1), s0d), o1, o2), 14))))
  else
   if decide (s0d > 0) = true then
    some (.inl (((s0c, i64.wrap (s0d - 1)), o1, o2)))
   else
    some (.inl (((s0c, s0d), o1, o2)))) : Option (((Int × Int) × tS × tL) ⊕ (((Int × Int) × tS × tL) × Int))).bind fun d => match d with
 | .inl ((s0c, s0d), o1, o2) =>
  some (((((i64.wrap (s0c + 1), s0d), o1, o2), 0)))
 | .inr ((((o0c, o0d), o1, o2), t2)) =>
  some (((((o0c, o0d), o1, o2), t2)))

def slab_Slab_call.c : Callee' := mkC 189 ⟨39, 0, [.box (cr 1 (cr 2 (cI (cI .nil)))), .arr .str, .map I .str], [0], (cr 0 .nil)⟩ [⟨39, 3, [.box (cr 1 (cr 2 (cI (cI .nil)))), .arr .str, .map I .str], [2], (cI .nil)⟩] slab_Slab_call
theorem slab_Slab_call.s : slab_Slab_call.c.ok Tryz.prog := sd 39 (.z (.join [(.norm, ⟨39, 3, [.box (cr 1 (cr 2 (cI (cI .nil)))), .arr .str, .map I .str], [0], (cr 0 .nil)⟩), (.ret, ⟨39, 3, [.box (cr 1 (cr 2 (cI (cI .nil)))), .arr .str, .map I .str], [2], (cI .nil)⟩)]
  (.block (.seq (.reg [.std, .obj .bool]) (.cond (.z .std) (.z (.cond (.z (.z .std)) (.z (.cond (.reg []) .std))))))) (.z (.z .std)))) kn kn Tryz.func189

def slab_Slab_Write : (((Int × Int) × tS × tL) × Int × tB) → Option (((Int × Int) × tS × tL) × Int) := fun (((s0c, s0d), o1, o2), i1, data2) =>
 (slab_Slab_call ((s0c, s0d), o1, o2)).bind fun (((r9, r9_2), r9_3, r9_4), r9_5) =>
  if (r9_5 != 0) = true then
   some (((((r9, r9_2), r9_3, r9_4), r9_5)))
  else
   (slab_Slab_there ((r9_3, r9_4, r9, r9_2), i1)).bind fun r15 =>
    if (!r15) = false then
     if decide ((data2.length : Int) > 128) = true then
      some (((((r9, r9_2), r9_3, r9_4), 1)))
     else
      (slab_whole data2).bind fun r28 =>
       some (((((r9, r9_2), r9_3, mput (K := I) (V := .str) r9_4 i1 r28), 0)))
    else
     some (((((r9, r9_2), r9_3, r9_4), 1)))

def slab_Slab_Write.c : Callee' := mkC 168 ⟨29, 0, [.box (cr 1 (cr 2 (cI (cI .nil)))), .arr .str, .map I .str], [0, 1, 2], (cr 0 (cI (cS .nil)))⟩ [⟨29, 3, [.box (cr 1 (cr 2 (cI (cI .nil)))), .arr .str, .map I .str], [6], (cI .nil)⟩] slab_Slab_Write
theorem slab_Slab_Write.s : slab_Slab_Write.c.ok Tryz.prog := sd 29 (.z (.seq (.seq (.reg [.std, .call [slab_Slab_call.c]]) (.z (.cond (.z .std) .std))) (.seq (.seq (.rq 2 slab_Slab_there.c) (.cond (.z .std) .std)) (.seq (.drw [.std, .std, .std, .std, .std, .std, .callq [slab_whole.c]]) (.z .std))))) (kc slab_Slab_call.s (kc slab_Slab_there.s (kc slab_whole.s kn))) (kc slab_Slab_there.q (kc slab_whole.q kn)) Tryz.func168

def maps_Keys_map_int_string_int_string : tL → Option tL := fun m0 =>
 some m0

def maps_Keys_map_int_string_int_string.c : Callee' := mkC 115 ⟨4, 0, [.map I .str], [0], (cr 0 .nil)⟩ [⟨4, 1, [.map I .str, .box (cr 0 .nil)], [2], (.cons (.fn (.func 158) .nil (cr 1 .nil)) .nil)⟩] maps_Keys_map_int_string_int_string
theorem maps_Keys_map_int_string_int_string.s : maps_Keys_map_int_string_int_string.c.ok Tryz.prog := sd 4 (.z (.z .std)) kn kn Tryz.func115

def slab_Slab_Loose : ((Int × Int) × tS × tL) → Option (((Int × Int) × tS × tL) × tI) := fun ((s0c, s0d), o1, o2) =>
 (maps_Keys_map_int_string_int_string o2).bind fun r9 =>
  (slices_Sorted r9).bind fun (r10, r10_2) =>
   some (((((s0c, s0d), o1, r10), r10_2)))

def slab_Slab_Loose.c : Callee' := mkC 214 ⟨11, 0, [.box (cr 1 (cr 2 (cI (cI .nil)))), .arr .str, .map I .str], [0], (cr 0 .nil)⟩ [⟨11, 3, [.box (cr 1 (cr 2 (cI (cI .nil)))), .arr .str, .map I .str], [2], (.cons (.v (.sl I)) .nil)⟩] slab_Slab_Loose
theorem slab_Slab_Loose.s : slab_Slab_Loose.c.ok Tryz.prog := sd 11 (.z (.seq (.seq (.reg [.std, .obj .bool]) (.cond (.z .std) .std)) (.seq (.reg [.std, .std, .std, .std, .call [maps_Keys_map_int_string_int_string.c], .call [slices_Sorted.c]]) .std))) (kc maps_Keys_map_int_string_int_string.s (kc slices_Sorted.sound kn)) kn Tryz.func214

theorem slab_Slab_Loose.q : FunQuiet slab_Slab_Loose.c.F := Sq.slab_quiet (n := 11) (m := 11) (is := [0]) (os := [2]) (so := (.cons (.v (.sl I)) .nil)) slab_Slab_Loose fun (x : (Int × Int) × List (List UInt8) × List (Int × List UInt8)) (y : ((Int × Int) × List (List UInt8) × List (Int × List UInt8)) × List Int) h => by
  obtain ⟨⟨c, u⟩, xs, es⟩ := x
  change ((slices_Sorted es).bind fun q => some (((c, u), xs, q.1), q.2)) = some y at h
  obtain ⟨q, h1, h2⟩ := Option.bind_eq_some_iff.1 h
  unfold slices_Sorted at h1
  split at h1
  · rw [← Option.some.inj h2, ← Option.some.inj h1]
    rfl
  · cases h1

def slab_Slab_Flush_1 : Int → Option (Bool) := fun t0 =>
 some true

def slab_Slab_Flush_1.c : Callee' := mkC 191 ⟨3, 0, [], [0], (cI .nil)⟩ [⟨3, 0, [], [2], (cB .nil)⟩] slab_Slab_Flush_1
theorem slab_Slab_Flush_1.q : FunQuiet slab_Slab_Flush_1.c.F := mkFun_quiet rfl rfl
theorem slab_Slab_Flush_1.s : slab_Slab_Flush_1.c.ok Tryz.prog := sd 3 (.z (.z .std)) kn kn Tryz.func191

def slab_Slab_keep.l1 : (((Int × Int) × tS × tL) × tI × Int × Int) → Option ((((Int × Int) × tS × tL) × tI × Int × Int) ⊕ ((Int × Int) × tS × tL)) := fun (((s0c, s0d), o1, o2), t7, t8, t9) =>
 if decide (t9 < t8) = true then
  if 0 ≤ t9 ∧ t9 < (t7.length : Int) then
   (slab_Slab_Flush_1 t9).bind fun r16 =>
    if r16 = true then
     if 0 ≤ t7.getD t9.toNat 0 ∧ t7.getD t9.toNat 0 < (o1.length : Int) then
      some (.inl ((((s0c, s0d), o1.set ((t7.getD t9.toNat 0).toNat) (((mget (K := I) (V := .str) o2 (t7.getD t9.toNat 0)).getD [])), o2), t7, t8, i64.wrap (t9 + 1))))
     else none
    else
     some (.inl ((((s0c, s0d), o1, o2), t7, t8, i64.wrap (t9 + 1))))
  else none
 else
  some (.inr ((((s0c, s0d), o1, o2))))

def slab_Slab_keep : ((Int × Int) × tS × tL) → Option ((Int × Int) × tS × tL) := fun ((s0c, s0d), o1, o2) =>
 (slab_Slab_Loose ((s0c, s0d), o1, o2)).bind fun ((_, _, _), r7) =>
  (loopO slab_Slab_keep.l1 ((((s0c, s0d), o1, o2), r7, (r7.length : Int), 0))).bind fun ((s0c, s0d), o1, o2) =>
   some ((((s0c, s0d), o1, ([] : tL))))

def slab_Slab_keep.c : Callee' := mkC 190 ⟨34, 0, [.box (cr 1 (cr 2 (cI (cI .nil)))), .arr .str, .map I .str], [0, 1], (cr 0 (.cons (.fn (.func 191) .nil .nil) .nil))⟩ [⟨34, 3, [.box (cr 1 (cr 2 (cI (cI .nil)))), .arr .str, .map I .str], [], .nil⟩] slab_Slab_keep
theorem slab_Slab_keep.s : slab_Slab_keep.c.ok Tryz.prog := sd 34 (.seq (.seq (.reg [.std, .callq [slab_Slab_Loose.c]]) (.block (.loop ⟨34, 3, [.box (cr 1 (cr 2 (cI (cI .nil)))), .arr .str, .map I .str], [0, 1, 7, 8, 9], (cr 0 (.cons (.fn (.func 191) .nil .nil) (.cons (.v (.sl I)) (cI (cI .nil)))))⟩ [(.exit 0, ⟨34, 3, [.box (cr 1 (cr 2 (cI (cI .nil)))), .arr .str, .map I .str], [0], (cr 0 .nil)⟩)]
  (.z (.seq (.cond .std .std) (.seq (.block (.z (.seq (.rq 2 slab_Slab_Flush_1.c) (.cond (.drw []) .std)))) (.reg []))))))) (.reg [])) (kc slab_Slab_Loose.s (kc slab_Slab_Flush_1.s kn)) (kc slab_Slab_Loose.q (kc slab_Slab_Flush_1.q kn)) Tryz.func190

def slab_Slab_Flush : ((Int × Int) × tS × tL) → Option (((Int × Int) × tS × tL) × Int) := fun ((s0c, s0d), o1, o2) =>
 (slab_Slab_call ((s0c, s0d), o1, o2)).bind fun (((r5, r5_2), r5_3, r5_4), r5_5) =>
  if (r5_5 == 0) = true then
   (slab_Slab_keep ((r5, r5_2), r5_3, r5_4)).bind fun ((r9, r9_2), r9_3, r9_4) =>
    some (((((r9, r9_2), r9_3, r9_4), r5_5)))
  else
   some (((((r5, r5_2), r5_3, r5_4), r5_5)))

def slab_Slab_Flush.c : Callee' := mkC 169 ⟨11, 0, [.box (cr 1 (cr 2 (cI (cI .nil)))), .arr .str, .map I .str], [0], (cr 0 .nil)⟩ [⟨11, 3, [.box (cr 1 (cr 2 (cI (cI .nil)))), .arr .str, .map I .str], [2], (cI .nil)⟩] slab_Slab_Flush
theorem slab_Slab_Flush.s : slab_Slab_Flush.c.ok Tryz.prog := sd 11 (.z (.seq (.reg [.std, .call [slab_Slab_call.c]]) (.seq (.z (.cond (.reg [.std, .call [slab_Slab_keep.c]]) .std)) (.z .std)))) (kc slab_Slab_call.s (kc slab_Slab_keep.s kn)) kn Tryz.func169

def log_Log_write.l1 : (((Bool × Int) × (Int × Int) × tS × tL) × (tL) × Int × Int) → Option ((((Bool × Int) × (Int × Int) × tS × tL) × (tL) × Int × Int) ⊕ (((Bool × Int) × (Int × Int) × tS × tL) ⊕ (((Bool × Int) × (Int × Int) × tS × tL) × Int))) := fun (((l0b, l0c), (o1c, o1d), o2, o3), t8, t9, t10) =>
 if decide (t10 < t9) = true then
  if 0 ≤ t10 ∧ t10 < (t8.length : Int) then
   (slab_Slab_Write (((o1c, o1d), o2, o3), t8.getD t10.toNat (0, []))).bind fun (((r22, r22_2), r22_3, r22_4), r22_5) =>
    if (r22_5 != 0) = true then
     some (.inr (.inr (((((l0b, l0c), (r22, r22_2), r22_3, r22_4), r22_5)))))
    else
     some (.inl ((((l0b, l0c), (r22, r22_2), r22_3, r22_4), t8, t9, i64.wrap (t10 + 1))))
  else none
 else
  some (.inr (.inl (((l0b, l0c), (o1c, o1d), o2, o3))))

def log_Log_write : (((Bool × Int) × (Int × Int) × tS × tL) × tL) → Option (((Bool × Int) × (Int × Int) × tS × tL) × Int) := fun (((l0b, l0c), (o1c, o1d), o2, o3), c1) =>
 (loopO log_Log_write.l1 ((((l0b, l0c), (o1c, o1d), o2, o3), c1, (c1.length : Int), 0))).bind fun d => match d with
 | .inl ((l0b, l0c), (o1c, o1d), o2, o3) =>
  (slab_Slab_Flush ((o1c, o1d), o2, o3)).bind fun (((r31, r31_2), r31_3, r31_4), r31_5) =>
   some (((((l0b, l0c), (r31, r31_2), r31_3, r31_4), r31_5)))
 | .inr ((((o0b, o0c), (o1c, o1d), o2, o3), t4)) =>
  some (((((o0b, o0c), (o1c, o1d), o2, o3), t4)))

def log_Log_write.c : Callee' := mkC 129 ⟨32, 0, [.box (cr 1 (cB (cI .nil))), .box (cr 2 (cr 3 (cI (cI .nil)))), .arr .str, .map I .str], [0, 1], (cr 0 (.cons (.v (.sl (.st (.pair I .str)))) .nil))⟩ [⟨32, 4, [.box (cr 1 (cB (cI .nil))), .box (cr 2 (cr 3 (cI (cI .nil)))), .arr .str, .map I .str], [4], (cI .nil)⟩] log_Log_write
theorem log_Log_write.s : log_Log_write.c.ok Tryz.prog := sd 32 (.z (.seq (.z (.block (.loop ⟨32, 4, [.box (cr 1 (cB (cI .nil))), .box (cr 2 (cr 3 (cI (cI .nil)))), .arr .str, .map I .str], [0, 8, 9, 10], (cr 0 (.cons (.v (.sl (.st (.pair I .str)))) (cI (cI .nil))))⟩ [(.exit 0, ⟨32, 4, [.box (cr 1 (cB (cI .nil))), .box (cr 2 (cr 3 (cI (cI .nil)))), .arr .str, .map I .str], [0], (cr 0 .nil)⟩), (.ret, ⟨32, 4, [.box (cr 1 (cB (cI .nil))), .box (cr 2 (cr 3 (cI (cI .nil)))), .arr .str, .map I .str], [4], (cI .nil)⟩)]
  (.z (.seq (.cond .std .std) (.seq (.block (.z (.seq (.drw [.std, .std, .std, .std, .std, .std, .std, .std, .call [slab_Slab_Write.c]]) (.z (.cond (.z .std) .std))))) (.reg []))))))) (.seq (.reg [.std, .std, .std, .std, .call [slab_Slab_Flush.c]]) .std))) (kc slab_Slab_Write.s (kc slab_Slab_Flush.s kn)) kn Tryz.func129

def log_Log_apply_1 : (((Bool × Int) × (Int × Int) × tS × tL) × tL) → Option (((Bool × Int) × (Int × Int) × tS × tL) × Int) := fun (((o1b, o1c), (o2c, o2d), o3, o4), t1) =>
 (log_Log_write (((o1b, o1c), (o2c, o2d), o3, o4), t1)).bind fun (((r5, r5_2), (r5_3, r5_4), r5_5, r5_6), r5_7) =>
  some (((((r5, r5_2), (r5_3, r5_4), r5_5, r5_6), r5_7)))

def log_Log_apply_1.c : Callee' := mkC 128 ⟨6, 0, [.box (cr 1 .nil), .box (cr 2 (cB (cI .nil))), .box (cr 3 (cr 4 (cI (cI .nil)))), .arr .str, .map I .str], [0, 1], (cr 0 (.cons (.v (.ptr (.sl (.st (.pair I .str))))) .nil))⟩ [⟨6, 5, [.box (cr 1 .nil), .box (cr 2 (cB (cI .nil))), .box (cr 3 (cr 4 (cI (cI .nil)))), .arr .str, .map I .str], [2], (cI .nil)⟩] log_Log_apply_1
theorem log_Log_apply_1.s : log_Log_apply_1.c.ok Tryz.prog := sd 6 (.z (.seq (.reg [.std, .std, .call [log_Log_write.c]]) .std)) (kc log_Log_write.s kn) kn Tryz.func128

def mould_Write.l2 : (tI × tI × Int × Int × tI × Int × Int) → Option ((tI × tI × Int × Int × tI × Int × Int) ⊕ (tI × tI × tI × Int × Int)) := fun (b6, widths0, v8, w9, t23, t24, t25) =>
 if decide (w9 > 0) = true then
  if roomOk (b6.length + (([u8.wrap (v8)] : tI)).length) 1 then
   some (.inl ((b6 ++ (([u8.wrap (v8)] : tI)), widths0, Int.fdiv v8 (2 ^ 8), i64.wrap (w9 - 1), t23, t24, t25)))
  else none
 else
  some (.inr (((b6, widths0, t23, t24, t25))))

def mould_Write.l1 : (tI × tI × tI × Int × Int) → Option ((tI × tI × tI × Int × Int) ⊕ (tI ⊕ (tB × Int))) := fun (b6, widths0, t23, t24, t25) =>
 if decide (t25 < t24) = true then
  if 0 ≤ t25 ∧ t25 < (t23.length : Int) then
   if 0 ≤ t25 ∧ t25 < (widths0.length : Int) then
    if decide (t23.getD t25.toNat 0 < 0) = false then
     if 0 ≤ i64.wrap (8 * (widths0.getD t25.toNat 0)) then
      if (Int.fdiv (t23.getD t25.toNat 0) (2 ^ (min (i64.wrap (8 * (widths0.getD t25.toNat 0))).toNat 64)) != 0) = true then
       some (.inr (.inr ((([], 3)))))
      else
       (loopO mould_Write.l2 ((b6, widths0, t23.getD t25.toNat 0, widths0.getD t25.toNat 0, t23, t24, t25))).bind fun (b6, widths0, t23, t24, t25) =>
        some (.inl ((b6, widths0, t23, t24, i64.wrap (t25 + 1))))
     else none
    else
     some (.inr (.inr ((([], 3)))))
   else none
  else none
 else
  some (.inr (.inl b6))

def mould_Write : (tI × tI) → Option (tB × Int) := fun (widths0, values1) =>
 (mould_Size widths0).bind fun r11 =>
  if decide (r11 < 0) = false then
   if ((widths0.length : Int) != (values1.length : Int)) = true then
    some ((([], 1)))
   else
    (mould_Size widths0).bind fun r21 =>
     if 0 ≤ (0 : Int) ∧ (0 : Int) ≤ r21 ∧ r21 * (1 : Nat) ≤ 140737488355328 ∧ r21 ≤ 9223372036854775807 then
      (loopO mould_Write.l1 ((List.replicate 0 (0 : Int), widths0, values1, (values1.length : Int), 0))).bind fun d => match d with
      | .inl b6 =>
       some (((b6.map fun (n : Int) => UInt8.ofNat n.toNat, 0)))
      | .inr ((t4, t5)) =>
       some (((t4, t5)))
     else none
  else
   some ((([], 1)))

def mould_Write.c : Callee' := mkC 98 ⟨57, 0, [], [0, 1], (.cons (.v (.sl I)) (.cons (.v (.sl I)) .nil))⟩ [⟨57, 0, [], [4, 5], (cS (cI .nil))⟩] mould_Write
theorem mould_Write.q : FunQuiet mould_Write.c.F := mkFun_quiet rfl rfl
theorem mould_Write.s : mould_Write.c.ok Tryz.prog := sd 57 (.z (.seq (.seq (.reg [.std, .callq [mould_Size.c]]) (.cond (.z .std) .std)) (.seq (.reg [.std, .callq [mould_Size.c], .obj (.int .u8)]) (.seq (.z (.block (.loop ⟨57, 0, [.arr (.int .u8)], [0, 6, 23, 24, 25], (.cons (.v (.sl I)) (cr 0 (.cons (.v (.sl I)) (cI (cI .nil)))))⟩ [(.exit 0, ⟨57, 0, [.arr (.int .u8)], [6], (cr 0 .nil)⟩), (.ret, ⟨57, 0, [], [4, 5], (cS (cI .nil))⟩)]
  (.z (.seq (.cond .std .std) (.seq (.block (.z (.z (.seq (.z (.cond (.z .std) .std)) (.block (.loop ⟨57, 0, [.arr (.int .u8)], [0, 6, 8, 9, 23, 24, 25], (.cons (.v (.sl I)) (cr 0 (cI (cI (.cons (.v (.sl I)) (cI (cI .nil)))))))⟩ [(.exit 2, ⟨57, 0, [.arr (.int .u8)], [0, 6, 23, 24, 25], (.cons (.v (.sl I)) (cr 0 (.cons (.v (.sl I)) (cI (cI .nil)))))⟩)]
  (.seq (.z (.cond .std .std)) (.seq (.block (.seq (.reg [.std, .std, .std, .inl (.int .u8), .obj (.int .u8)]) (.reg []))) (.reg []))))))))) (.reg []))))))) (.z .std))))) (kc mould_Size.s (kc mould_Size.s kn)) (kc mould_Size.q (kc mould_Size.q kn)) Tryz.func98

def log_headOf : tI → Option tL := fun blocks0 =>
 (slices_Repeat_int_int (([2] : tI), (blocks0.length : Int))).bind fun r9 =>
  (mould_Write (r9, blocks0)).bind fun (r11, r11_2) =>
   if ((([u8.wrap ((blocks0.length : Int))] : tI)).map fun (n : Int) => UInt8.ofNat n.toNat).length + r11.length ≤ 9223372036854775807 then
    (mould_Pad (((([u8.wrap ((blocks0.length : Int))] : tI)).map fun (n : Int) => UInt8.ofNat n.toNat) ++ r11, 128)).bind fun (r22, r22_2) =>
     some ((([(1, r22)] : tL)))
   else none

def log_headOf.c : Callee' := mkC 131 ⟨28, 0, [], [0], (.cons (.v (.sl I)) .nil)⟩ [⟨28, 0, [], [2], (.cons (.v (.sl (.st (.pair I .str)))) .nil)⟩] log_headOf
theorem log_headOf.q : FunQuiet log_headOf.c.F := mkFun_quiet rfl rfl
theorem log_headOf.s : log_headOf.c.ok Tryz.prog := sd 28 (.z (.seq (.reg [.inl I, .std, .std, .callq [slices_Repeat_int_int.c], .std, .callq [mould_Write.c]]) (.seq (.reg [.std, .std, .std, .inl (.int .u8), .std, .std, .std, .callq [mould_Pad.c]]) (.seq (.reg [.std, .std, .inl (.st (.pair I .str))]) .std)))) (kc slices_Repeat_int_int.s (kc mould_Write.s (kc mould_Pad.s kn))) (kc slices_Repeat_int_int.q (kc mould_Write.q (kc mould_Pad.q kn))) Tryz.func131

def log_Log_apply_2 : ((Bool × Int) × (Int × Int) × tS × tL) → Option (((Bool × Int) × (Int × Int) × tS × tL) × Int) := fun ((o1b, o1c), (o2c, o2d), o3, o4) =>
 (log_headOf ([] : tI)).bind fun r3 =>
  (log_Log_write (((o1b, o1c), (o2c, o2d), o3, o4), r3)).bind fun (((r4, r4_2), (r4_3, r4_4), r4_5, r4_6), r4_7) =>
   some (((((r4, r4_2), (r4_3, r4_4), r4_5, r4_6), r4_7)))

def log_Log_apply_2.c : Callee' := mkC 130 ⟨5, 0, [.box (cr 1 .nil), .box (cr 2 (cB (cI .nil))), .box (cr 3 (cr 4 (cI (cI .nil)))), .arr .str, .map I .str], [0], (cr 0 .nil)⟩ [⟨5, 5, [.box (cr 1 .nil), .box (cr 2 (cB (cI .nil))), .box (cr 3 (cr 4 (cI (cI .nil)))), .arr .str, .map I .str], [1], (cI .nil)⟩] log_Log_apply_2
theorem log_Log_apply_2.s : log_Log_apply_2.c.ok Tryz.prog := sd 5 (.z (.seq (.drw [.std, .callq [log_headOf.c], .call [log_Log_write.c]]) .std)) (kc log_headOf.s (kc log_Log_write.s kn)) (kc log_headOf.q kn) Tryz.func130

def log_all : ((tL) × (Bool × Int) × (Int × Int) × tS × tL) → Option (((tL) × (Bool × Int) × (Int × Int) × tS × tL) × Int) := fun (o1, (o2b, o2c), (o3c, o3d), o4, o5) =>
 (log_Log_apply_1 (((o2b, o2c), (o3c, o3d), o4, o5), o1)).bind fun (((r13, r13_2), (r13_3, r13_4), r13_5, r13_6), r13_7) =>
  if (r13_7 != 0) = true then
   some ((((o1, (r13, r13_2), (r13_3, r13_4), r13_5, r13_6), r13_7)))
  else
   (log_Log_apply_2 ((r13, r13_2), (r13_3, r13_4), r13_5, r13_6)).bind fun (((r13a, r13a_2), (r13a_3, r13a_4), r13a_5, r13a_6), r13a_7) =>
    if (r13a_7 != 0) = true then
     some ((((o1, (r13a, r13a_2), (r13a_3, r13a_4), r13a_5, r13a_6), r13a_7)))
    else
     some ((((o1, (r13a, r13a_2), (r13a_3, r13a_4), r13a_5, r13a_6), 0)))

def log_all.c : Callee' := mkC 127 ⟨18, 0, [.box (cr 2 .nil), .box (.cons (.v (.sl (.st (.pair I .str)))) .nil), .box (cr 3 (cB (cI .nil))), .box (cr 4 (cr 5 (cI (cI .nil)))), .arr .str, .map I .str], [0], (.cons (.fsl (.cons (.fn (.func 128) .nil (cr 0 (cr 1 .nil))) (.cons (.fn (.func 130) .nil (cr 0 .nil)) .nil))) .nil)⟩ [⟨18, 6, [.box (cr 2 .nil), .box (.cons (.v (.sl (.st (.pair I .str)))) .nil), .box (cr 3 (cB (cI .nil))), .box (cr 4 (cr 5 (cI (cI .nil)))), .arr .str, .map I .str], [2], (cI .nil)⟩] log_all
theorem log_all.s : log_all.c.ok Tryz.prog := sd 18 (.z (.seq (.z (.block (.unroll (.z (.seq (.cond .std .std) (.seq (.block (.z (.seq (.reg [.std, .call [log_Log_apply_1.c, log_Log_apply_2.c]]) (.z (.cond (.z .std) .std))))) (.reg [])))) (.unroll (.z (.seq (.cond .std .std) (.seq (.block (.z (.seq (.reg [.std, .call [log_Log_apply_1.c, log_Log_apply_2.c]]) (.z (.cond (.z .std) .std))))) (.reg [])))) (.unroll (.z (.seq (.cond .std .std) (.seq (.block (.z (.seq (.reg [.std, .call [log_Log_apply_1.c, log_Log_apply_2.c]]) (.z (.cond (.z .std) .std))))) (.reg [])))) .std))))) (.z .std))) (kc log_Log_apply_1.s (kc log_Log_apply_2.s (kc log_Log_apply_1.s (kc log_Log_apply_2.s (kc log_Log_apply_1.s (kc log_Log_apply_2.s kn)))))) kn Tryz.func127

def log_Log_apply : (((Bool × Int) × (Int × Int) × tS × tL) × tL) → Option (((Bool × Int) × (Int × Int) × tS × tL) × Int) := fun (((l0b, l0c), (o1c, o1d), o2, o3), c1) =>
 (log_all (c1, (l0b, l0c), (o1c, o1d), o2, o3)).bind fun ((r8, (r8_2, r8_3), (r8_4, r8_5), r8_6, r8_7), r8_8) =>
  some (((((r8_2, r8_3), (r8_4, r8_5), r8_6, r8_7), r8_8)))

def log_Log_apply.c : Callee' := mkC 79 ⟨9, 0, [.box (cr 1 (cB (cI .nil))), .box (cr 2 (cr 3 (cI (cI .nil)))), .arr .str, .map I .str], [0, 1], (cr 0 (.cons (.v (.sl (.st (.pair I .str)))) .nil))⟩ [⟨9, 4, [.box (cr 1 (cB (cI .nil))), .box (cr 2 (cr 3 (cI (cI .nil)))), .arr .str, .map I .str], [4], (cI .nil)⟩] log_Log_apply
theorem log_Log_apply.s : log_Log_apply.c.ok Tryz.prog := sd 9 (.z (.seq (.reg [.std, .std, .std, .call [log_all.c]]) .std)) (kc log_all.s kn) kn Tryz.func79

def log_Open : ((Int × Int) × tS × tL) → Option ((((Int × Int) × tS × tL) × Int) ⊕ (((Int × Int) × tS × (tL) × Bool × Int) × Int)) := fun ((s0c, s0d), o1, o2) =>
 (slab_Slab_Size (o1, o2, s0c, s0d)).bind fun r12 =>
  if decide (r12 < 64) = true then
   some (.inl ((((s0c, s0d), o1, o2), 1)))
  else
   (log_Log_read_2 ((false, 0), (s0c, s0d), o1, o2)).bind fun (((r20, r20_2), (r20_3, r20_4), r20_5, r20_6), r20_7, r20_8) =>
    if (!r20_8) = true then
     some (.inl ((((r20_3, r20_4), r20_5, r20_6), 15)))
    else
     if decide ((r20_7.length : Int) > 0) = true then
      (log_Log_apply (((r20, r20_2), (r20_3, r20_4), r20_5, r20_6), r20_7)).bind fun (((r30, r30_2), (r30_3, r30_4), r30_5, r30_6), r30_7) =>
       if (r30_7 != 0) = true then
        some (.inl ((((r30_3, r30_4), r30_5, r30_6), r30_7)))
       else
        some (.inr (((((r30_3, r30_4), r30_5, r30_6, r30, r30_2), 0))))
     else
      some (.inr (((((r20_3, r20_4), r20_5, r20_6, r20, r20_2), 0))))

def log_Open.c : Callee' := mkC 37 ⟨35, 0, [.box (cr 1 (cr 2 (cI (cI .nil)))), .arr .str, .map I .str], [0], (cr 0 .nil)⟩ [⟨35, 3, [.box (cr 1 (cr 2 (cI (cI .nil)))), .arr .str, .map I .str], [2, 3], (.cons (.nilptr) (cI .nil))⟩, ⟨35, 3, [.box (cr 1 (cr 2 (cI (cI .nil)))), .arr .str, .map I .str, .box (cr 0 (cB (cI .nil)))], [2, 3], (cr 3 (cI .nil))⟩] log_Open
theorem log_Open.s : log_Open.c.ok Tryz.prog := sd 35 (.z (.seq (.seq (.reg [.std, .obj .bool, .std, .std, .callq [slab_Slab_Size.c]]) (.cond (.z .std) .std)) (.z (.seq (.reg [.std, .call [log_Log_read_2.c]]) (.seq (.z (.cond (.z .std) .std)) (.seq (.z (.cond (.seq (.reg [.std, .std, .call [log_Log_apply.c]]) (.z (.cond (.z .std) .std))) .std)) (.z .std))))))) (kc slab_Slab_Size.s (kc log_Log_read_2.s (kc log_Log_apply.s kn))) (kc slab_Slab_Size.q kn) Tryz.func37

def deal_Begin : Unit → Option (Int) := fun _ =>
 some 1

def deal_Begin.c : Callee' := mkC 39 ⟨11, 0, [], [0], (.cons (.nilptr) .nil)⟩ [⟨11, 0, [], [2, 3], (.cons (.nilptr) (cI .nil))⟩] deal_Begin
theorem deal_Begin.q : FunQuiet deal_Begin.c.F := mkFun_quiet rfl rfl
theorem deal_Begin.s : deal_Begin.c.ok Tryz.prog := sd 11 (.z (.seq (.seq (.reg [.std, .obj .bool]) (.cond (.z .std) .std)) (.seq (.reg [.std, .mp I .str]) .std))) kn kn Tryz.func39

def deal_Deal_SetCrown : (Int × Int × Int) → Option (Int) := fun c1 =>
 some 1

def deal_Deal_SetCrown.c : Callee' := mkC 40 ⟨31, 0, [], [0, 1], (.cons (.nilptr) (.cons (.v (.st (.pair I (.pair I I)))) .nil))⟩ [⟨31, 0, [], [4], (cI .nil)⟩] deal_Deal_SetCrown
theorem deal_Deal_SetCrown.q : FunQuiet deal_Deal_SetCrown.c.F := mkFun_quiet rfl rfl
theorem deal_Deal_SetCrown.s : deal_Deal_SetCrown.c.ok Tryz.prog := sd 31 (.z (.seq (.seq (.drw [.std, .inl .bool, .std, .std, .std, .std, .std, .std, .std, .std, .callq []]) (.cond (.z .std) .std)) (.z (.seq (.z (.cond (.z .std) .std)) (.z .std))))) kn kn Tryz.func40

def rf01_Zeros : Int → Option tB := fun n0 =>
 if 0 ≤ n0 ∧ n0 ≤ n0 ∧ n0 * (1 : Nat) ≤ 140737488355328 ∧ n0 ≤ 9223372036854775807 then
  some (((List.replicate n0.toNat (0 : Int)).map fun (n : Int) => UInt8.ofNat n.toNat))
 else none

def rf01_Zeros.c : Callee' := mkC 134 ⟨6, 0, [], [0], (cI .nil)⟩ [⟨6, 0, [], [2], (cS .nil)⟩] rf01_Zeros
theorem rf01_Zeros.q : FunQuiet rf01_Zeros.c.F := mkFun_quiet rfl rfl
theorem rf01_Zeros.s : rf01_Zeros.c.ok Tryz.prog := sd 6 (.z (.seq (.reg [.std, .obj (.int .u8)]) .std)) kn kn Tryz.func134

def rf02_Whole : tB → Option tB := fun s0 =>
 if 0 ≤ (if 128 < (s0.length : Int) then 128 else (s0.length : Int)) ∧ (if 128 < (s0.length : Int) then 128 else (s0.length : Int)) ≤ (s0.length : Int) then
  (rf01_Zeros (i64.wrap (128 - ((s0.take ((if 128 < (s0.length : Int) then 128 else (s0.length : Int))).toNat).length : Int)))).bind fun r12 =>
   if (s0.take ((if 128 < (s0.length : Int) then 128 else (s0.length : Int))).toNat).length + r12.length ≤ 9223372036854775807 then
    some (((s0.take ((if 128 < (s0.length : Int) then 128 else (s0.length : Int))).toNat) ++ r12))
   else none
 else none

def rf02_Whole.c : Callee' := mkC 83 ⟨14, 0, [], [0], (cS .nil)⟩ [⟨14, 0, [], [2], (cS .nil)⟩] rf02_Whole
theorem rf02_Whole.q : FunQuiet rf02_Whole.c.F := mkFun_quiet rfl rfl
theorem rf02_Whole.s : rf02_Whole.c.ok Tryz.prog := sd 14 (.z (.z (.seq (.rq 4 rf01_Zeros.c) .std))) (kc rf01_Zeros.s kn) (kc rf01_Zeros.q kn) Tryz.func83

def rf03_Is.l1 : (Int × Int × Int) → Option ((Int × Int × Int) ⊕ Int) := fun (i1, x5, k6) =>
 if decide (k6 < Int.tmod i1 8) = true then
  some (.inl ((i1, i64.wrap (Int.tdiv x5 2), i64.wrap (k6 + 1))))
 else
  some (.inr x5)

def rf03_Is : (tB × Int) → Option (Bool) := fun (m0, i1) =>
 if decide (i1 < 0) = false then
  if decide (i1 ≥ i64.wrap (8 * (m0.length : Int))) = true then
   some true
  else
   if 0 ≤ i64.wrap (Int.tdiv i1 8) ∧ i64.wrap (Int.tdiv i1 8) < (m0.length : Int) then
    (loopO rf03_Is.l1 ((i1, i64.wrap (((m0.getD ((i64.wrap (Int.tdiv i1 8)).toNat) 0).toNat : Int)), 0))).bind fun x5 =>
     some (((Int.tmod x5 2 == 1)))
   else none
 else
  some true

def rf03_Is.c : Callee' := mkC 135 ⟨32, 0, [], [0, 1], (cS (cI .nil))⟩ [⟨32, 0, [], [4], (cB .nil)⟩] rf03_Is
theorem rf03_Is.q : FunQuiet rf03_Is.c.F := mkFun_quiet rfl rfl
theorem rf03_Is.s : rf03_Is.c.ok Tryz.prog := sd 32 (.z (.seq (.z (.cond (.z .std) .std)) (.z (.seq (.z (.block (.loop ⟨32, 0, [], [1, 5, 6], (cI (cI (cI .nil)))⟩ [(.exit 0, ⟨32, 0, [], [5], (cI .nil)⟩)]
  (.seq (.z (.cond .std .std)) (.seq (.block (.reg [])) (.reg [])))))) (.z .std))))) kn kn Tryz.func135

def rf03_Set : (tB × Int × Bool) → Option tB := fun (m0, i1, yes2) =>
 if decide (i1 < 0) = false then
  if decide (i1 ≥ i64.wrap (8 * (m0.length : Int))) = false then
   (rf03_Is (m0, i1)).bind fun r20 =>
    if (r20 == yes2) = true then
     some m0
    else
     if 0 ≤ i64.wrap (Int.tdiv i1 8) ∧ i64.wrap (Int.tdiv i1 8) < ((m0.map fun b => (b.toNat : Int)).length : Int) then
      if 0 ≤ u64.wrap (Int.tmod i1 8) then
       if 0 ≤ i64.wrap (Int.tdiv i1 8) ∧ i64.wrap (Int.tdiv i1 8) < ((m0.map fun b => (b.toNat : Int)).length : Int) then
        some ((((m0.map fun b => (b.toNat : Int)).set ((i64.wrap (Int.tdiv i1 8)).toNat) (bitsOp .xor .u8 ((m0.map fun b => (b.toNat : Int)).getD ((i64.wrap (Int.tdiv i1 8)).toNat) 0) (u8.wrap (1 * 2 ^ (min (u64.wrap (Int.tmod i1 8)).toNat 8))))).map fun (n : Int) => UInt8.ofNat n.toNat))
       else none
      else none
     else none
  else
   some m0
 else
  some m0

def rf03_Set.c : Callee' := mkC 84 ⟨40, 0, [], [0, 1, 2], (cS (cI (cB .nil)))⟩ [⟨40, 0, [], [6], (cS .nil)⟩] rf03_Set
theorem rf03_Set.q : FunQuiet rf03_Set.c.F := mkFun_quiet rfl rfl
theorem rf03_Set.s : rf03_Set.c.ok Tryz.prog := sd 40 (.z (.seq (.seq (.rq 12 rf03_Is.c) (.cond (.z .std) .std)) (.seq (.reg [.std, .obj (.int .u8)]) (.z (.z .std))))) (kc rf03_Is.s kn) (kc rf03_Is.q kn) Tryz.func84

def rf10_Marks.l1 : (Int × tB × Int) → Option ((Int × tB × Int) ⊕ tB) := fun (blocks0, m3, i4) =>
 if decide (i4 < 1024) = true then
  ((
   if decide (i4 < 51) = false then
    some (((blocks0, m3, i4, decide (i4 ≥ blocks0))))
   else
    some (((blocks0, m3, i4, true)))) : Option (Int × tB × Int × Bool)).bind fun (blocks0, m3, i4, t16) =>
   if t16 = true then
    (rf03_Set (m3, i4, true)).bind fun r19 =>
     some (.inl ((blocks0, r19, i64.wrap (i4 + 1))))
   else
    some (.inl ((blocks0, m3, i64.wrap (i4 + 1))))
 else
  some (.inr m3)

def rf10_Marks : Int → Option tB := fun blocks0 =>
 (rf02_Whole []).bind fun r5 =>
  (loopO rf10_Marks.l1 ((blocks0, r5, 0))).bind fun m3 =>
   some m3

def rf10_Marks.c : Callee' := mkC 41 ⟨21, 0, [], [0], (cI .nil)⟩ [⟨21, 0, [], [2], (cS .nil)⟩] rf10_Marks
theorem rf10_Marks.q : FunQuiet rf10_Marks.c.F := mkFun_quiet rfl rfl
theorem rf10_Marks.s : rf10_Marks.c.ok Tryz.prog := sd 21 (.z (.seq (.reg [.callq [rf02_Whole.c]]) (.seq (.z (.block (.loop ⟨21, 0, [], [0, 3, 4], (cI (cS (cI .nil)))⟩ [(.exit 0, ⟨21, 0, [], [3], (cS .nil)⟩)]
  (.seq (.z (.cond .std .std)) (.seq (.block (.join [(.norm, ⟨21, 0, [], [0, 3, 4, 16], (cI (cS (cI (cB .nil))))⟩)]
  (.reg []) (.cond (.rq 2 rf03_Set.c) .std))) (.reg [])))))) (.z .std)))) (kc rf02_Whole.s (kc rf03_Set.s kn)) (kc rf02_Whole.q (kc rf03_Set.q kn)) Tryz.func41

def deal_Deal_Write : (Int × tB) → Option (Int) := fun (i1, data2) =>
 some 1

def deal_Deal_Write.c : Callee' := mkC 19 ⟨33, 0, [], [0, 1, 2], (.cons (.nilptr) (cI (cS .nil)))⟩ [⟨33, 0, [], [6], (cI .nil)⟩] deal_Deal_Write
theorem deal_Deal_Write.q : FunQuiet deal_Deal_Write.c.F := mkFun_quiet rfl rfl
theorem deal_Deal_Write.s : deal_Deal_Write.c.ok Tryz.prog := sd 33 (.z (.seq (.seq (.reg [.std, .obj .bool]) (.cond (.z .std) .std)) (.z (.seq (.z (.cond (.z .std) .std)) (.z (.z .std)))))) kn kn Tryz.func19

def deal_Begin_2 : ((Bool × Int) × (Int × Int) × tS × tL) → Option (((Bool × Int) × (Int × Int) × tS × (tL) × tL) × Int) := fun ((l0b, l0c), (o1c, o1d), o2, o3) =>
 some (((((l0b, l0c), (o1c, o1d), o2, o3, ([] : tL)), 0)))

def deal_Begin_2.c : Callee' := mkC 39 ⟨11, 0, [.box (cr 1 (cB (cI .nil))), .box (cr 2 (cr 3 (cI (cI .nil)))), .arr .str, .map I .str], [0], (cr 0 .nil)⟩ [⟨11, 4, [.box (cr 1 (cB (cI .nil))), .box (cr 2 (cr 3 (cI (cI .nil)))), .arr .str, .map I .str, .box (cr 0 (cr 5 .nil)), .map I .str], [2, 3], (cr 4 (cI .nil))⟩] deal_Begin_2
theorem deal_Begin_2.s : deal_Begin_2.c.ok Tryz.prog := sd 11 (.z (.seq (.seq (.reg [.std, .obj .bool]) (.cond (.z .std) .std)) (.seq (.reg [.std, .mp I .str]) .std))) kn kn Tryz.func39

def log_Log_Size : ((tS × (tL) × Int × Int) × Bool × Int) → Option (Int) := fun l0 =>
 (slab_Slab_Size l0.1).bind fun r9 =>
  some r9

def log_Log_Size.c : Callee' := mkC 81 ⟨10, 0, [], [0], (.cons (.v (.ptr (.pair (.ptr (.pair (.sl .str) (.pair (.map I .str) (.pair I I)))) (.pair .bool I)))) .nil)⟩ [⟨10, 0, [], [2], (cI .nil)⟩] log_Log_Size
theorem log_Log_Size.q : FunQuiet log_Log_Size.c.F := mkFun_quiet rfl rfl
theorem log_Log_Size.s : log_Log_Size.c.ok Tryz.prog := sd 10 (.z (.seq (.seq (.reg [.std, .obj .bool]) (.cond (.z .std) .std)) (.seq (.rq 4 slab_Slab_Size.c) .std))) (kc slab_Slab_Size.s kn) (kc slab_Slab_Size.q kn) Tryz.func81

def crown_Right : (Int × Int × Int) → Option (Bool) := fun c0 =>
 if decide (c0.2.1 < 64) = false then
  if decide (c0.2.1 > 400) = true then
   some false
  else
   ((
    if (c0.1 == 1) = true then
     some (((c0, c0.1, true)))
    else
     some (((c0, c0.1, (c0.1 == 2))))) : Option ((Int × Int × Int) × Int × Bool)).bind fun ((c1a, c1b, c1c), t12, t13) =>
    if t13 = true then
     some (((c1c == 0)))
    else
     ((
      if (t12 == 3) = true then
       some ((((c1a, c1b, c1c), true)))
      else
       some ((((c1a, c1b, c1c), (t12 == 4))))) : Option ((Int × Int × Int) × Bool)).bind fun ((c1a, c1b, c1c), t19) =>
      if t19 = true then
       if decide (c1c ≥ 0) = true then
        some ((decide (c1c ≤ 32)))
       else
        some false
      else
       some false
 else
  some false

def crown_Right.c : Callee' := mkC 118 ⟨30, 0, [], [0], (.cons (.v (.st (.pair I (.pair I I)))) .nil)⟩ [⟨30, 0, [], [2], (cB .nil)⟩] crown_Right
theorem crown_Right.q : FunQuiet crown_Right.c.F := mkFun_quiet rfl rfl
theorem crown_Right.s : crown_Right.c.ok Tryz.prog := sd 30 (.z (.seq (.z (.cond (.z .std) .std)) (.seq (.z (.block (.join [(.norm, ⟨30, 0, [.box (cI (cI (cI .nil)))], [1, 12, 13], (cr 0 (cI (cB .nil)))⟩)]
  (.z (.cond .std (.reg []))) (.cond (.z .std) (.join [(.norm, ⟨30, 0, [.box (cI (cI (cI .nil)))], [1, 19], (cr 0 (cB .nil))⟩)]
  (.z (.cond .std (.reg []))) (.cond (.z .std) .std)))))) (.z .std)))) kn kn Tryz.func118

def crown_widths : Unit → Option tI := fun _ =>
 some ((([1, 2, 1] : tI)))

def crown_widths.c : Callee' := mkC 133 ⟨2, 0, [], [], .nil⟩ [⟨2, 0, [], [0], (.cons (.v (.sl I)) .nil)⟩] crown_widths
theorem crown_widths.q : FunQuiet crown_widths.c.F := mkFun_quiet rfl rfl
theorem crown_widths.s : crown_widths.c.ok Tryz.prog := sd 2 (.z (.seq (.reg [.inl I]) .std)) kn kn Tryz.func133

def crown_Write : (Int × Int × Int) → Option (tB × Int) := fun c0 =>
 (crown_Right c0).bind fun r7 =>
  if (!r7) = true then
   some ((([], 1)))
  else
   (crown_widths ()).bind fun r10 =>
    (mould_Write (r10, ([c0.1, c0.2.1, c0.2.2] : tI))).bind fun (r18, r18_2) =>
     if (r18_2 != 0) = true then
      some ((([], r18_2)))
     else
      if (([119, 97, 105, 110, 119, 114, 105, 103, 104, 116] : tB)).length + r18.length ≤ 9223372036854775807 then
       (mould_Pad ((([119, 97, 105, 110, 119, 114, 105, 103, 104, 116] : tB)) ++ r18, 128)).bind fun (r26, r26_2) =>
        some (((r26, r26_2)))
      else none

def crown_Write.c : Callee' := mkC 82 ⟨29, 0, [], [0], (.cons (.v (.st (.pair I (.pair I I)))) .nil)⟩ [⟨29, 0, [], [2, 3], (cS (cI .nil))⟩] crown_Write
theorem crown_Write.q : FunQuiet crown_Write.c.F := mkFun_quiet rfl rfl
theorem crown_Write.s : crown_Write.c.ok Tryz.prog := sd 29 (.z (.seq (.seq (.reg [.std, .callq [crown_Right.c]]) (.cond (.z .std) .std)) (.seq (.drw [.callq [crown_widths.c], .std, .std, .std, .std, .std, .std, .inl I, .callq [mould_Write.c]]) (.seq (.z (.cond (.z .std) .std)) (.seq (.rq 2 mould_Pad.c) .std))))) (kc crown_Right.s (kc crown_widths.s (kc mould_Write.s (kc mould_Pad.s kn)))) (kc crown_Right.q (kc crown_widths.q (kc mould_Write.q (kc mould_Pad.q kn)))) Tryz.func82

def deal_written_there : ((((tS × (tL) × Int × Int) × Bool × Int) × tL) × Int) → Option (Bool) := fun (w0, i1) =>
 if decide (i1 ≥ 0) = true then
  (log_Log_Size w0.1).bind fun r13 =>
   if decide (i1 < r13) = true then
    if decide (i1 < 1) = false then
     some ((decide (i1 > 41)))
    else
     some true
   else
    some false
 else
  some false

def deal_written_there.c : Callee' := mkC 53 ⟨24, 0, [], [0, 1], (.cons (.v (.ptr (.pair (.ptr (.pair (.ptr (.pair (.sl .str) (.pair (.map I .str) (.pair I I)))) (.pair .bool I))) (.map I .str)))) (cI .nil))⟩ [⟨24, 0, [], [4], (cB .nil)⟩] deal_written_there
theorem deal_written_there.q : FunQuiet deal_written_there.c.F := mkFun_quiet rfl rfl
theorem deal_written_there.s : deal_written_there.c.ok Tryz.prog := sd 24 (.z (.seq (.rq 8 log_Log_Size.c) .std)) (kc log_Log_Size.s kn) (kc log_Log_Size.q kn) Tryz.func53

def deal_Deal_Write_1 : (((Bool × Int) × (tL) × (Int × Int) × tS × tL) × Int × tB) → Option (((Bool × Int) × (tL) × (Int × Int) × tS × tL) × Int) := fun (((o1b, o1c), o2, (o3c, o3d), o4, o5), i1, data2) =>
 (deal_written_there ((((o4, o5, o3c, o3d), o1b, o1c), o2), i1)).bind fun r16 =>
  if (!r16) = true then
   some (((((o1b, o1c), o2, (o3c, o3d), o4, o5), 1)))
  else
   (mould_Pad (data2, 128)).bind fun (r21, r21_2) =>
    if (r21_2 != 0) = true then
     some (((((o1b, o1c), o2, (o3c, o3d), o4, o5), 1)))
    else
     some (((((o1b, o1c), mput (K := I) (V := .str) o2 i1 r21, (o3c, o3d), o4, o5), 0)))

def deal_Deal_Write_1.c : Callee' := mkC 19 ⟨33, 0, [.box (cr 1 (cr 2 .nil)), .box (cr 3 (cB (cI .nil))), .map I .str, .box (cr 4 (cr 5 (cI (cI .nil)))), .arr .str, .map I .str], [0, 1, 2], (cr 0 (cI (cS .nil)))⟩ [⟨33, 6, [.box (cr 1 (cr 2 .nil)), .box (cr 3 (cB (cI .nil))), .map I .str, .box (cr 4 (cr 5 (cI (cI .nil)))), .arr .str, .map I .str], [6], (cI .nil)⟩] deal_Deal_Write_1
theorem deal_Deal_Write_1.s : deal_Deal_Write_1.c.ok Tryz.prog := sd 33 (.z (.seq (.seq (.reg [.std, .obj .bool, .std, .std, .std, .std, .std, .callq [deal_written_there.c]]) (.cond (.z .std) .std)) (.seq (.reg [.std, .callq [mould_Pad.c]]) (.seq (.z (.cond (.z .std) .std)) (.z (.z .std)))))) (kc deal_written_there.s (kc mould_Pad.s kn)) (kc deal_written_there.q (kc mould_Pad.q kn)) Tryz.func19

def deal_Deal_SetCrown_1 : (((Bool × Int) × (tL) × (Int × Int) × tS × tL) × Int × Int × Int) → Option (((Bool × Int) × (tL) × (Int × Int) × tS × tL) × Int) := fun (((o1b, o1c), o2, (o3c, o3d), o4, o5), c1) =>
 (log_Log_Size ((o4, o5, o3c, o3d), o1b, o1c)).bind fun r17 =>
  if decide (c1.2.1 > r17) = true then
   some (((((o1b, o1c), o2, (o3c, o3d), o4, o5), 1)))
  else
   (crown_Write c1).bind fun (r22, r22_2) =>
    if (r22_2 != 0) = true then
     some (((((o1b, o1c), o2, (o3c, o3d), o4, o5), r22_2)))
    else
     (deal_Deal_Write_1 (((o1b, o1c), o2, (o3c, o3d), o4, o5), 0, r22)).bind fun (((r30, r30_2), r30_3, (r30_4, r30_5), r30_6, r30_7), r30_8) =>
      some (((((r30, r30_2), r30_3, (r30_4, r30_5), r30_6, r30_7), r30_8)))

def deal_Deal_SetCrown_1.c : Callee' := mkC 40 ⟨31, 0, [.box (cr 1 (cr 2 .nil)), .box (cr 3 (cB (cI .nil))), .map I .str, .box (cr 4 (cr 5 (cI (cI .nil)))), .arr .str, .map I .str], [0, 1], (cr 0 (.cons (.v (.st (.pair I (.pair I I)))) .nil))⟩ [⟨31, 6, [.box (cr 1 (cr 2 .nil)), .box (cr 3 (cB (cI .nil))), .map I .str, .box (cr 4 (cr 5 (cI (cI .nil)))), .arr .str, .map I .str], [4], (cI .nil)⟩] deal_Deal_SetCrown_1
theorem deal_Deal_SetCrown_1.s : deal_Deal_SetCrown_1.c.ok Tryz.prog := sd 31 (.z (.seq (.seq (.drw [.std, .inl .bool, .std, .std, .std, .std, .std, .std, .std, .std, .callq [log_Log_Size.c]]) (.cond (.z .std) .std)) (.seq (.reg [.std, .callq [crown_Write.c]]) (.seq (.z (.cond (.z .std) .std)) (.seq (.reg [.std, .std, .call [deal_Deal_Write_1.c]]) .std))))) (kc log_Log_Size.s (kc crown_Write.s (kc deal_Deal_Write_1.s kn))) (kc log_Log_Size.q (kc crown_Write.q kn)) Tryz.func40

def lw14_begin : Int → Option (Unit ⊕ ((Bool × Int) × (tL) × (Int × Int) × tS × tL)) := fun n0 =>
 (slab_New n0).bind fun ((r9, r9_2), r9_3, r9_4) =>
  (log_Open ((r9, r9_2), r9_3, r9_4)).bind fun d => match d with
  | .inl (((r10, r10_2), r10_3, r10_4), r10_5) =>
   if (r10_5 != 0) = true then
    some (.inl ())
   else
    (deal_Begin ()).bind fun r17 =>
     if (r17 != 0) = false then
      (deal_Deal_SetCrown (1, n0, 0)).bind fun r26 =>
       if (r26 != 0) = false then
        (rf10_Marks n0).bind fun r32 =>
         (deal_Deal_Write (42, r32)).bind fun r33 =>
          if (r33 != 0) = true then
           some (.inl ())
          else
           some (.inl ())
       else
        some (.inl ())
     else
      some (.inl ())
  | .inr ((((r10b, r10_2b), r10_3b, r10_4b, r10_5b, r10_6b), r10_7b)) =>
   if (r10_7b != 0) = true then
    some (.inl ())
   else
    (deal_Begin_2 ((r10_5b, r10_6b), (r10b, r10_2b), r10_3b, r10_4b)).bind fun (((r17a, r17a_2), (r17a_3, r17a_4), r17a_5, r17a_6, r17a_7), r17a_8) =>
     if (r17a_8 != 0) = false then
      (deal_Deal_SetCrown_1 (((r17a, r17a_2), r17a_7, (r17a_3, r17a_4), r17a_5, r17a_6), 1, n0, 0)).bind fun (((r26a, r26a_2), r26a_3, (r26a_4, r26a_5), r26a_6, r26a_7), r26a_8) =>
       if (r26a_8 != 0) = false then
        (rf10_Marks n0).bind fun r32a =>
         (deal_Deal_Write_1 (((r26a, r26a_2), r26a_3, (r26a_4, r26a_5), r26a_6, r26a_7), 42, r32a)).bind fun (((r33a, r33a_2), r33a_3, (r33a_4, r33a_5), r33a_6, r33a_7), r33a_8) =>
          if (r33a_8 != 0) = true then
           some (.inl ())
          else
           some (.inr ((((r33a, r33a_2), r33a_3, (r33a_4, r33a_5), r33a_6, r33a_7))))
       else
        some (.inl ())
     else
      some (.inl ())

def lw14_begin.c : Callee' := mkC 25 ⟨37, 0, [], [0], (cI .nil)⟩ [⟨37, 0, [], [2], (.cons (.nilptr) .nil)⟩, ⟨37, 0, [.box (cr 1 (cr 2 .nil)), .box (cr 3 (cB (cI .nil))), .map I .str, .box (cr 4 (cr 5 (cI (cI .nil)))), .arr .str, .map I .str], [2], (cr 0 .nil)⟩] lw14_begin
theorem lw14_begin.s : lw14_begin.c.ok Tryz.prog := sd 37 (.z (.seq (.reg [.std, .call [slab_New.c], .call [log_Open.c]]) (.seq (.z (.cond (.z .std) .std)) (.seq (.reg [.std, .call [deal_Begin.c, deal_Begin_2.c]]) (.seq (.seq (.reg [.std, .std, .std, .std, .std, .std, .call [deal_Deal_SetCrown.c, deal_Deal_SetCrown_1.c], .std, .std, .std, .std, .std, .callq [rf10_Marks.c], .call [deal_Deal_Write.c, deal_Deal_Write_1.c]]) (.cond (.z .std) .std)) (.z .std)))))) (kc slab_New.s (kc log_Open.s (kc deal_Begin.s (kc deal_Begin_2.s (kc deal_Deal_SetCrown.s (kc deal_Deal_SetCrown_1.s (kc rf10_Marks.s (kc deal_Deal_Write.s (kc deal_Deal_Write_1.s kn))))))))) (kc rf10_Marks.q kn) Tryz.func25

def rf01_Same.l1 : (tI × tI × Int) → Option ((tI × tI × Int) ⊕ (Unit ⊕ Bool)) := fun (a0, b1, i5) =>
 if decide (i5 < (a0.length : Int)) = true then
  if 0 ≤ i5 ∧ i5 < (a0.length : Int) then
   if 0 ≤ i5 ∧ i5 < (b1.length : Int) then
    if (a0.getD i5.toNat 0 != b1.getD i5.toNat 0) = true then
     some (.inr (.inr false))
    else
     some (.inl ((a0, b1, i64.wrap (i5 + 1))))
   else none
  else none
 else
  some (.inr (.inl ()))

def rf01_Same : (tI × tI) → Option (Bool) := fun (a0, b1) =>
 if ((a0.length : Int) != (b1.length : Int)) = true then
  some false
 else
  (loopO rf01_Same.l1 ((a0, b1, 0))).bind fun d => match d with
  | .inl _ =>
   some true
  | .inr t4 =>
   some t4

def rf01_Same.c : Callee' := mkC 17 ⟨26, 0, [], [0, 1], (.cons (.v (.sl I)) (.cons (.v (.sl I)) .nil))⟩ [⟨26, 0, [], [4], (cB .nil)⟩] rf01_Same
theorem rf01_Same.q : FunQuiet rf01_Same.c.F := mkFun_quiet rfl rfl
theorem rf01_Same.s : rf01_Same.c.ok Tryz.prog := sd 26 (.z (.seq (.z (.cond (.z .std) .std)) (.seq (.z (.block (.loop ⟨26, 0, [], [0, 1, 5], (.cons (.v (.sl I)) (.cons (.v (.sl I)) (cI .nil)))⟩ [(.exit 0, ⟨26, 0, [], [], .nil⟩), (.ret, ⟨26, 0, [], [4], (cB .nil)⟩)]
  (.seq (.z (.cond .std .std)) (.seq (.block (.seq (.drw []) (.cond (.z .std) .std))) (.reg [])))))) (.z .std)))) kn kn Tryz.func17

def rf04_Same.l1 : ((List (Int × Int × Int)) × (List (Int × Int × Int)) × Int) → Option (((List (Int × Int × Int)) × (List (Int × Int × Int)) × Int) ⊕ (Unit ⊕ Bool)) := fun (a0, b1, i5) =>
 if decide (i5 < (a0.length : Int)) = true then
  if 0 ≤ i5 ∧ i5 < (a0.length : Int) then
   if 0 ≤ i5 ∧ i5 < (b1.length : Int) then
    if (!(((a0.getD i5.toNat (0, (0, 0))).1 == (b1.getD i5.toNat (0, (0, 0))).1) && ((((a0.getD i5.toNat (0, (0, 0))).2).1 == ((b1.getD i5.toNat (0, (0, 0))).2).1) && (((a0.getD i5.toNat (0, (0, 0))).2).2 == ((b1.getD i5.toNat (0, (0, 0))).2).2)))) = true then
     some (.inr (.inr false))
    else
     some (.inl ((a0, b1, i64.wrap (i5 + 1))))
   else none
  else none
 else
  some (.inr (.inl ()))

def rf04_Same : ((List (Int × Int × Int)) × List (Int × Int × Int)) → Option (Bool) := fun (a0, b1) =>
 if ((a0.length : Int) != (b1.length : Int)) = true then
  some false
 else
  (loopO rf04_Same.l1 ((a0, b1, 0))).bind fun d => match d with
  | .inl _ =>
   some true
  | .inr t4 =>
   some t4

def rf04_Same.c : Callee' := mkC 102 ⟨26, 0, [], [0, 1], (.cons (.v (.sl (.st (.pair I (.pair I I))))) (.cons (.v (.sl (.st (.pair I (.pair I I))))) .nil))⟩ [⟨26, 0, [], [4], (cB .nil)⟩] rf04_Same
theorem rf04_Same.q : FunQuiet rf04_Same.c.F := mkFun_quiet rfl rfl
theorem rf04_Same.s : rf04_Same.c.ok Tryz.prog := sd 26 (.z (.seq (.z (.cond (.z .std) .std)) (.seq (.z (.block (.loop ⟨26, 0, [], [0, 1, 5], (.cons (.v (.sl (.st (.pair I (.pair I I))))) (.cons (.v (.sl (.st (.pair I (.pair I I))))) (cI .nil)))⟩ [(.exit 0, ⟨26, 0, [], [], .nil⟩), (.ret, ⟨26, 0, [], [4], (cB .nil)⟩)]
  (.seq (.z (.cond .std .std)) (.seq (.block (.seq (.drw [.std, .std, .std, .std, .std, .std, .std, .std, .eqs 81]) (.cond (.z .std) .std))) (.reg [])))))) (.z .std)))) kn kn Tryz.func102

def rf09_Same : (tC × tC) → Option (Bool) := fun (a0, b1) =>
 if (a0.1 == b1.1) = true then
  if (a0.2.1 == b1.2.1) = true then
   if (a0.2.2.1 == b1.2.2.1) = true then
    if (a0.2.2.2.1 == b1.2.2.2.1) = true then
     (rf01_Same (a0.2.2.2.2.1, b1.2.2.2.2.1)).bind fun r36 =>
      if r36 = true then
       if (a0.2.2.2.2.2.1 == b1.2.2.2.2.2.1) = true then
        if (a0.2.2.2.2.2.2.1 == b1.2.2.2.2.2.2.1) = true then
         (rf04_Same (a0.2.2.2.2.2.2.2.1, b1.2.2.2.2.2.2.2.1)).bind fun r57 =>
          if r57 = true then
           some (((a0.2.2.2.2.2.2.2.2 == b1.2.2.2.2.2.2.2.2)))
          else
           some false
        else
         some false
       else
        some false
      else
       some false
    else
     some false
   else
    some false
  else
   some false
 else
  some false

def rf09_Same.c : Callee' := mkC 55 ⟨66, 0, [], [0, 1], (.cons (.v (yC)) (.cons (.v (yC)) .nil))⟩ [⟨66, 0, [], [4], (cB .nil)⟩] rf09_Same
theorem rf09_Same.q : FunQuiet rf09_Same.c.F := mkFun_quiet rfl rfl
def rf09_Same.ann : Ann := (.z (.seq (.reg [.std, .std, .std, .std, .std, .std, .std, .std, .std, .std, .std, .std, .std, .std, .std, .std, .std, .std, .std, .std, .std, .std, .std, .std, .std, .std, .std, .std, .std, .std, .std, .callq [rf01_Same.c], .std, .std, .std, .std, .std, .std, .std, .std, .std, .std, .std, .std, .std, .std, .std, .std, .std, .std, .std, .std, .callq [rf04_Same.c]]) .std))
theorem rf09_Same.s : rf09_Same.c.ok Tryz.prog := sd 66 rf09_Same.ann (kc rf01_Same.s (kc rf04_Same.s kn)) (kc rf01_Same.q (kc rf04_Same.q kn)) Tryz.func55

def rf09_small : Int → Option (Bool) := fun n0 =>
 if decide (n0 ≥ 0) = true then
  some ((decide (n0 ≤ 65535)))
 else
  some false

def rf09_small.c : Callee' := mkC 56 ⟨9, 0, [], [0], (cI .nil)⟩ [⟨9, 0, [], [2], (cB .nil)⟩] rf09_small
theorem rf09_small.q : FunQuiet rf09_small.c.F := mkFun_quiet rfl rfl
theorem rf09_small.s : rf09_small.c.ok Tryz.prog := sd 9 (.z (.z .std)) kn kn Tryz.func56

def rf04_Right.l1 : ((List (Int × Int × Int)) × Int) → Option (((List (Int × Int × Int)) × Int) ⊕ (Unit ⊕ Bool)) := fun (l0, k3) =>
 if decide (k3 < (l0.length : Int)) = true then
  if 0 ≤ k3 ∧ k3 < (l0.length : Int) then
   if decide ((l0.getD k3.toNat (0, (0, 0))).1 < 0) = false then
    if decide ((l0.getD k3.toNat (0, (0, 0))).1 ≥ 65536) = false then
     if decide (((l0.getD k3.toNat (0, (0, 0))).2).1 < 1) = false then
      if decide (((l0.getD k3.toNat (0, (0, 0))).2).1 ≥ 65536) = false then
       if decide (((l0.getD k3.toNat (0, (0, 0))).2).2 < 1) = false then
        if decide (((l0.getD k3.toNat (0, (0, 0))).2).2 ≥ 65536) = false then
         if decide (i64.wrap (((l0.getD k3.toNat (0, (0, 0))).1) + (((l0.getD k3.toNat (0, (0, 0))).2).2)) > 65536) = false then
          if decide (i64.wrap ((((l0.getD k3.toNat (0, (0, 0))).2).1) + (((l0.getD k3.toNat (0, (0, 0))).2).2)) > 65536) = true then
           some (.inr (.inr false))
          else
           if (k3 == 0) = true then
            some (.inl ((l0, i64.wrap (k3 + 1))))
           else
            if 0 ≤ i64.wrap (k3 - 1) ∧ i64.wrap (k3 - 1) < (l0.length : Int) then
             if decide ((l0.getD k3.toNat (0, (0, 0))).1 < i64.wrap (((l0.getD ((i64.wrap (k3 - 1)).toNat) (0, (0, 0))).1) + (((l0.getD ((i64.wrap (k3 - 1)).toNat) (0, (0, 0))).2).2))) = false then
              if ((l0.getD k3.toNat (0, (0, 0))).1 == i64.wrap (((l0.getD ((i64.wrap (k3 - 1)).toNat) (0, (0, 0))).1) + (((l0.getD ((i64.wrap (k3 - 1)).toNat) (0, (0, 0))).2).2))) = true then
               if (((l0.getD k3.toNat (0, (0, 0))).2).1 == i64.wrap ((((l0.getD ((i64.wrap (k3 - 1)).toNat) (0, (0, 0))).2).1) + (((l0.getD ((i64.wrap (k3 - 1)).toNat) (0, (0, 0))).2).2))) = true then
                some (.inr (.inr false))
               else
                some (.inl ((l0, i64.wrap (k3 + 1))))
              else
               some (.inl ((l0, i64.wrap (k3 + 1))))
             else
              some (.inr (.inr false))
            else none
         else
          some (.inr (.inr false))
        else
         some (.inr (.inr false))
       else
        some (.inr (.inr false))
      else
       some (.inr (.inr false))
     else
      some (.inr (.inr false))
    else
     some (.inr (.inr false))
   else
    some (.inr (.inr false))
  else none
 else
  some (.inr (.inl ()))

def rf04_Right : (List (Int × Int × Int)) → Option (Bool) := fun l0 =>
 (loopO rf04_Right.l1 ((l0, 0))).bind fun d => match d with
 | .inl _ =>
  some true
 | .inr t2 =>
  some t2

def rf04_Right.c : Callee' := mkC 57 ⟨95, 0, [], [0], (.cons (.v (.sl (.st (.pair I (.pair I I))))) .nil)⟩ [⟨95, 0, [], [2], (cB .nil)⟩] rf04_Right
theorem rf04_Right.q : FunQuiet rf04_Right.c.F := mkFun_quiet rfl rfl
theorem rf04_Right.s : rf04_Right.c.ok Tryz.prog := sd 95 (.z (.seq (.z (.block (.loop ⟨95, 0, [], [0, 3], (.cons (.v (.sl (.st (.pair I (.pair I I))))) (cI .nil))⟩ [(.exit 0, ⟨95, 0, [], [], .nil⟩), (.ret, ⟨95, 0, [], [2], (cB .nil)⟩)]
  (.seq (.z (.cond .std .std)) (.seq (.block (.z (.seq (.z (.cond (.z .std) .std)) (.seq (.z (.cond .std .std)) (.z (.z (.cond (.z .std) .std))))))) (.reg [])))))) (.z .std))) kn kn Tryz.func57

def rf09_Right.l1 : (tC × Int) → Option ((tC × Int) ⊕ (tC ⊕ Bool)) := fun ((c1a, c1b, c1c, c1d, c1e, c1f, c1g, c1h, c1i), i3) =>
 if decide (i3 < (c1e.length : Int)) = true then
  if 0 ≤ i3 ∧ i3 < (c1e.length : Int) then
   (rf09_small (c1e.getD i3.toNat 0)).bind fun r45 =>
    if (!r45) = true then
     some (.inr (.inr false))
    else
     some (.inl (((c1a, c1b, c1c, c1d, c1e, c1f, c1g, c1h, c1i), i64.wrap (i3 + 1))))
  else none
 else
  some (.inr (.inl ((c1a, c1b, c1c, c1d, c1e, c1f, c1g, c1h, c1i))))

def rf09_Right : tC → Option (Bool) := fun c0 =>
 (rf09_Same (c0, 0, 0, 0, 0, ([] : tI), 0, 0, ([] : List (Int × Int × Int)), 0)).bind fun r6 =>
  if r6 = true then
   some true
  else
   ((
    if (c0.2.1 != 1) = true then
     if (c0.2.1 != 2) = false then
      if decide (c0.2.2.1 < 1) = false then
       if decide (c0.2.2.1 > 200) = false then
        if decide (c0.2.2.2.1 < 0) = true then
         some (.inr false)
        else
         some (.inl c0)
       else
        some (.inr false)
      else
       some (.inr false)
     else
      some (.inr false)
    else
     if decide (c0.2.2.1 < 1) = false then
      if decide (c0.2.2.1 > 200) = false then
       if decide (c0.2.2.2.1 < 0) = true then
        some (.inr false)
       else
        some (.inl c0)
      else
       some (.inr false)
     else
      some (.inr false)) : Option (tC ⊕ Bool)).bind fun d => match d with
   | .inl (c1a, c1b, c1c, c1d, c1e, c1f, c1g, c1h, c1i) =>
    if (c1a == 1) = true then
     (loopO rf09_Right.l1 (((c1a, c1b, c1c, c1d, c1e, c1f, c1g, c1h, c1i), 0))).bind fun d => match d with
     | .inl (c1a, c1b, c1c, c1d, c1e, c1f, c1g, c1h, c1i) =>
      if decide (c1d ≤ 9728) = true then
       if ((c1e.length : Int) == 4) = true then
        (rf09_small c1f).bind fun r59 =>
         if r59 = true then
          (rf09_small c1g).bind fun r64 =>
           if r64 = true then
            if ((c1h.length : Int) == 0) = true then
             some (((c1i == 0)))
            else
             some false
           else
            some false
         else
          some false
       else
        some false
      else
       some false
     | .inr t2 =>
      some t2
    else
     if (c1a == 2) = true then
      if decide (c1d ≤ 15360) = true then
       if ((c1e.length : Int) == 0) = true then
        if (c1f == 0) = true then
         if (c1g == 0) = true then
          if decide ((c1h.length : Int) ≤ 3) = true then
           (rf04_Right c1h).bind fun r110 =>
            if r110 = true then
             (rf09_small c1i).bind fun r115 =>
              if r115 = true then
               if (c1i == 0) = false then
                some ((((c1h.length : Int) == 3)))
               else
                some true
              else
               some false
            else
             some false
          else
           some false
         else
          some false
        else
         some false
       else
        some false
      else
       some false
     else
      some false
   | .inr t2 =>
    some t2

def rf09_Right.c : Callee' := mkC 21 ⟨128, 0, [], [0], (.cons (.v (yC)) .nil)⟩ [⟨128, 0, [], [2], (cB .nil)⟩] rf09_Right
theorem rf09_Right.q : FunQuiet rf09_Right.c.F := mkFun_quiet rfl rfl
def rf09_Right.ann : Ann := (.z (.seq (.seq (.rq 2 rf09_Same.c) (.cond (.z .std) .std)) (.join [(.norm, ⟨128, 0, [.box (cI (cI (cI (cI (.cons (.v (.sl I)) (cI (cI (.cons (.v (.sl (.st (.pair I (.pair I I))))) (cI .nil)))))))))], [1], (cr 0 .nil)⟩), (.ret, ⟨128, 0, [], [2], (cB .nil)⟩)]
  (.z (.cond (.z .std) .std)) (.seq (.z (.cond (.seq (.z (.block (.loop ⟨128, 0, [.box (cI (cI (cI (cI (.cons (.v (.sl I)) (cI (cI (.cons (.v (.sl (.st (.pair I (.pair I I))))) (cI .nil)))))))))], [1, 3], (cr 0 (cI .nil))⟩ [(.exit 0, ⟨128, 0, [.box (cI (cI (cI (cI (.cons (.v (.sl I)) (cI (cI (.cons (.v (.sl (.st (.pair I (.pair I I))))) (cI .nil)))))))))], [1], (cr 0 .nil)⟩), (.ret, ⟨128, 0, [], [2], (cB .nil)⟩)]
  (.seq (.z (.cond .std .std)) (.seq (.block (.seq (.rq 5 rf09_small.c) (.cond (.z .std) .std))) (.reg [])))))) (.seq (.reg [.std, .std, .std, .std, .std, .std, .std, .std, .std, .std, .std, .std, .callq [rf09_small.c], .std, .std, .std, .std, .callq [rf09_small.c]]) .std)) .std)) (.seq (.reg [.std, .std, .std, .std, .std, .std, .std, .std, .std, .std, .std, .std, .std, .std, .std, .std, .std, .std, .std, .std, .std, .std, .std, .std, .std, .std, .std, .std, .std, .std, .std, .std, .std, .callq [rf04_Right.c], .std, .std, .std, .std, .callq [rf09_small.c]]) .std)))))
theorem rf09_Right.s : rf09_Right.c.ok Tryz.prog := sd 128 rf09_Right.ann (kc rf09_Same.s (kc rf09_small.s (kc rf09_small.s (kc rf09_small.s (kc rf04_Right.s (kc rf09_small.s kn)))))) (kc rf09_Same.q (kc rf09_small.q (kc rf09_small.q (kc rf09_small.q (kc rf04_Right.q (kc rf09_small.q kn)))))) Tryz.func21

def rf09_New : (Int × Int) → Option (tC × Int) := fun (format0, kind1) =>
 ((
  if (format0 == 1) = true then
   some ((((zC, format0, kind1, 1, 0, ([0, 0, 0, 0] : tI), 0, 0, ([] : List (Int × Int × Int)), 0), format0)))
  else
   some ((((zC, format0, kind1, 1, 0, ([] : tI), 0, 0, ([] : List (Int × Int × Int)), 0), format0)))) : Option ((tC × tC) × Int)).bind fun (((t4a, t4b, t4c, t4d, t4e, t4f, t4g, t4h, t4i), c6a, c6b, c6c, c6d, c6e, c6f, c6g, c6h, c6i), format0) =>
  if (format0 == 0) = false then
   (rf09_Right (c6a, c6b, c6c, c6d, c6e, c6f, c6g, c6h, c6i)).bind fun r18 =>
    if (!r18) = true then
     some (((zC, 1)))
    else
     some ((((c6a, c6b, c6c, c6d, c6e, c6f, c6g, c6h, c6i), 0)))
  else
   some (((zC, 1)))

def rf09_New.c : Callee' := mkC 42 ⟨23, 0, [], [0, 1], (cI (cI .nil))⟩ [⟨24, 0, [], [23, 5], (.cons (.v (yC)) (cI .nil))⟩] rf09_New
theorem rf09_New.q : FunQuiet rf09_New.c.F := mkFun_quiet rfl rfl
theorem rf09_New.s : rf09_New.c.ok Tryz.prog := sdR 23 [(4, 29)] (.z (.z (.join [(.norm, ⟨23, 0, [.box (cI (cI (cI (cI (.cons (.v (.sl I)) (cI (cI (.cons (.v (.sl (.st (.pair I (.pair I I))))) (cI .nil))))))))), .box (cI (cI (cI (cI (.cons (.v (.sl I)) (cI (cI (.cons (.v (.sl (.st (.pair I (.pair I I))))) (cI .nil)))))))))], [0, 4, 6], (cI (cr 0 (cr 1 .nil)))⟩)]
  (.z (.cond (.reg [.inl I]) .std)) (.seq (.seq (.rq 4 rf09_Right.c) (.cond (.z .std) .std)) (.z .std))))) (kc rf09_Right.s kn) (kc rf09_Right.q kn) Tryz.func42

def lw14_fresh : Unit → Option tC := fun _ =>
 (rf09_New (1, 1)).bind fun (r4, r4_2) =>
  some r4

def lw14_fresh.c : Callee' := mkC 26 ⟨8, 0, [], [], .nil⟩ [⟨9, 0, [], [8], (.cons (.v (yC)) .nil)⟩] lw14_fresh
theorem lw14_fresh.q : FunQuiet lw14_fresh.c.F := mkFun_quiet rfl rfl
theorem lw14_fresh.s : lw14_fresh.c.ok Tryz.prog := sdR 8 [(0, 29)] (.z (.seq (.reg [.callq [rf09_New.c]]) (.z .std))) (kc rf09_New.s kn) (kc rf09_New.q kn) Tryz.func26

def slices_Grow_int_int_1 : Int → Option tI := fun n1 =>
 if decide (n1 < 0) = true then none else
 if decide (i64.wrap (n1 - (i64.wrap (0 - 0))) > 0) = true then
  if 0 ≤ (0 : Int) ∧ (0 : Int) ≤ 0 then
   if 0 ≤ i64.wrap (n1 - (i64.wrap (0 - 0))) ∧ i64.wrap (n1 - (i64.wrap (0 - 0))) ≤ 9223372036854775807 ∧ roomOk (i64.wrap (n1 - (i64.wrap (0 - 0)))).toNat 8 then
    if 0 ≤ (0 : Int) ∧ (0 : Int) ≤ ((List.replicate (i64.wrap (n1 - (i64.wrap (0 - 0)))).toNat (0 : Int)).length : Int) then
     some ((((List.replicate (i64.wrap (n1 - (i64.wrap (0 - 0)))).toNat (0 : Int)).drop 0).take (((0 : Int) - 0).toNat)))
    else none
   else none
  else none
 else
  some []

def slices_Grow_int_int_1.c : Callee' := mkC 170 ⟨27, 0, [], [0, 1], (.cons (.nilsl) (cI .nil))⟩ [⟨27, 0, [.arr I], [4], (cr 0 .nil)⟩] slices_Grow_int_int_1
theorem slices_Grow_int_int_1.s : slices_Grow_int_int_1.c.ok Tryz.prog := sd 27 (.z (.seq (.z (.cond (.reg []) .std)) (.seq (.z (.z (.cond (.reg [.std, .std, .std, .std, .std, .inl I]) .std))) (.z .std)))) kn kn Tryz.func170

def slices_Concat_int_int.l1 : (List (tI) × Int × List (tI) × Int × Int) → Option ((List (tI) × Int × List (tI) × Int × Int) ⊕ (List (tI) × Int)) := fun (slices0, size3, t9, t10, t11) =>
 if decide (t11 < t10) = true then
  if 0 ≤ t11 ∧ t11 < (t9.length : Int) then
   if decide (i64.wrap (size3 + ((t9.getD t11.toNat []).length : Int)) < 0) = true then none else
   some (.inl ((slices0, i64.wrap (size3 + ((t9.getD t11.toNat []).length : Int)), t9, t10, i64.wrap (t11 + 1))))
  else none
 else
  some (.inr (((slices0, size3))))

def slices_Concat_int_int.l2 : (tI × List (tI) × Int × Int) → Option ((tI × List (tI) × Int × Int) ⊕ tI) := fun (newslice6, t25, t26, t27) =>
 if decide (t27 < t26) = true then
  if 0 ≤ t27 ∧ t27 < (t25.length : Int) then
   if roomOk (newslice6.length + (t25.getD t27.toNat []).length) 8 then
    some (.inl ((newslice6 ++ (t25.getD t27.toNat []), t25, t26, i64.wrap (t27 + 1))))
   else none
  else none
 else
  some (.inr newslice6)

def slices_Concat_int_int : List tI → Option tI := fun slices0 =>
 (loopO slices_Concat_int_int.l1 ((slices0, 0, slices0, (slices0.length : Int), 0))).bind fun (slices0, size3) =>
  (slices_Grow_int_int_1 size3).bind fun r24 =>
   (loopO slices_Concat_int_int.l2 ((r24, slices0, (slices0.length : Int), 0))).bind fun newslice6 =>
    some newslice6

def slices_Concat_int_int.c : Callee' := mkC 140 ⟨36, 0, [], [0], (.cons (.v (.sl (.sl I))) .nil)⟩ [⟨36, 0, [], [2], (.cons (.v (.sl I)) .nil)⟩] slices_Concat_int_int
theorem slices_Concat_int_int.q : FunQuiet slices_Concat_int_int.c.F := mkFun_quiet rfl rfl
theorem slices_Concat_int_int.s : slices_Concat_int_int.c.ok Tryz.prog := sd 36 (.z (.z (.seq (.z (.block (.loop ⟨36, 0, [], [0, 3, 9, 10, 11], (.cons (.v (.sl (.sl I))) (cI (.cons (.v (.sl (.sl I))) (cI (cI .nil)))))⟩ [(.exit 0, ⟨36, 0, [], [0, 3], (.cons (.v (.sl (.sl I))) (cI .nil))⟩)]
  (.z (.seq (.cond .std .std) (.seq (.block (.z (.z (.z (.cond (.reg []) .std))))) (.reg []))))))) (.seq (.reg [.std, .call [slices_Grow_int_int_1.c]]) (.seq (.z (.block (.loop ⟨36, 0, [.arr I], [6, 25, 26, 27], (cr 0 (.cons (.v (.sl (.sl I))) (cI (cI .nil))))⟩ [(.exit 2, ⟨36, 0, [.arr I], [6], (cr 0 .nil)⟩)]
  (.z (.seq (.cond .std .std) (.seq (.block (.z (.reg [.std, .std, .obj I]))) (.reg []))))))) (.z .std)))))) (kc slices_Grow_int_int_1.s kn) kn Tryz.func140

def slices_Equal_int_int.l1 : (tI × tI × Int × Int) → Option ((tI × tI × Int × Int) ⊕ (Unit ⊕ Bool)) := fun (s10, s21, t12, t13) =>
 if decide (t13 < t12) = true then
  if 0 ≤ t13 ∧ t13 < (s10.length : Int) then
   if 0 ≤ t13 ∧ t13 < (s21.length : Int) then
    if (s10.getD t13.toNat 0 != s21.getD t13.toNat 0) = true then
     some (.inr (.inr false))
    else
     some (.inl ((s10, s21, t12, i64.wrap (t13 + 1))))
   else none
  else none
 else
  some (.inr (.inl ()))

def slices_Equal_int_int : (tI × tI) → Option (Bool) := fun (s10, s21) =>
 if ((s10.length : Int) != (s21.length : Int)) = true then
  some false
 else
  (loopO slices_Equal_int_int.l1 ((s10, s21, (s10.length : Int), 0))).bind fun d => match d with
  | .inl _ =>
   some true
  | .inr t4 =>
   some t4

def slices_Equal_int_int.c : Callee' := mkC 192 ⟨26, 0, [], [0, 1], (.cons (.v (.sl I)) (.cons (.v (.sl I)) .nil))⟩ [⟨26, 0, [], [4], (cB .nil)⟩] slices_Equal_int_int
theorem slices_Equal_int_int.q : FunQuiet slices_Equal_int_int.c.F := mkFun_quiet rfl rfl
theorem slices_Equal_int_int.s : slices_Equal_int_int.c.ok Tryz.prog := sd 26 (.z (.seq (.z (.cond (.z .std) .std)) (.seq (.z (.block (.loop ⟨26, 0, [], [0, 1, 12, 13], (.cons (.v (.sl I)) (.cons (.v (.sl I)) (cI (cI .nil))))⟩ [(.exit 0, ⟨26, 0, [], [], .nil⟩), (.ret, ⟨26, 0, [], [4], (cB .nil)⟩)]
  (.z (.seq (.cond .std .std) (.seq (.block (.z (.seq (.drw []) (.cond (.z .std) .std)))) (.reg []))))))) (.z .std)))) kn kn Tryz.func192

def api_Span.l1 : ((List (Int × Int × Int)) × (List (Int × Int × Int)) × Int × Int) → Option (((List (Int × Int × Int)) × (List (Int × Int × Int)) × Int × Int) ⊕ (Unit ⊕ Bool)) := fun (s10, s21, t12, t13) =>
 if decide (t13 < t12) = true then
  if 0 ≤ t13 ∧ t13 < (s10.length : Int) then
   if 0 ≤ t13 ∧ t13 < (s21.length : Int) then
    if (!(((s10.getD t13.toNat (0, (0, 0))).1 == (s21.getD t13.toNat (0, (0, 0))).1) && ((((s10.getD t13.toNat (0, (0, 0))).2).1 == ((s21.getD t13.toNat (0, (0, 0))).2).1) && (((s10.getD t13.toNat (0, (0, 0))).2).2 == ((s21.getD t13.toNat (0, (0, 0))).2).2)))) = true then
     some (.inr (.inr false))
    else
     some (.inl ((s10, s21, t12, i64.wrap (t13 + 1))))
   else none
  else none
 else
  some (.inr (.inl ()))

def api_Span : ((List (Int × Int × Int)) × List (Int × Int × Int)) → Option (Bool) := fun (s10, s21) =>
 if ((s10.length : Int) != (s21.length : Int)) = true then
  some false
 else
  (loopO api_Span.l1 ((s10, s21, (s10.length : Int), 0))).bind fun d => match d with
  | .inl _ =>
   some true
  | .inr t4 =>
   some t4

def api_Span.c : Callee' := mkC 193 ⟨26, 0, [], [0, 1], (.cons (.v (.sl (.st (.pair I (.pair I I))))) (.cons (.v (.sl (.st (.pair I (.pair I I))))) .nil))⟩ [⟨26, 0, [], [4], (cB .nil)⟩] api_Span
theorem api_Span.q : FunQuiet api_Span.c.F := mkFun_quiet rfl rfl
theorem api_Span.s : api_Span.c.ok Tryz.prog := sd 26 (.z (.seq (.z (.cond (.z .std) .std)) (.seq (.z (.block (.loop ⟨26, 0, [], [0, 1, 12, 13], (.cons (.v (.sl (.st (.pair I (.pair I I))))) (.cons (.v (.sl (.st (.pair I (.pair I I))))) (cI (cI .nil))))⟩ [(.exit 0, ⟨26, 0, [], [], .nil⟩), (.ret, ⟨26, 0, [], [4], (cB .nil)⟩)]
  (.z (.seq (.cond .std .std) (.seq (.block (.z (.seq (.drw [.std, .std, .std, .std, .std, .std, .std, .std, .eqs 81]) (.cond (.z .std) .std)))) (.reg []))))))) (.z .std)))) kn kn Tryz.func193

def cards_plain : tC → Option (Int × Int × Int × Int × Int × Int × Int) := fun c0 =>
 some (((c0.1, c0.2.1, c0.2.2.1, c0.2.2.2.1, c0.2.2.2.2.2.1, c0.2.2.2.2.2.2.1, c0.2.2.2.2.2.2.2.2)))

def cards_plain.c : Callee' := mkC 194 ⟨18, 0, [], [0], (.cons (.v (yC)) .nil)⟩ [⟨19, 0, [], [18], (.cons (.v (.st (.pair I (.pair I (.pair I (.pair I (.pair I (.pair I I)))))))) .nil)⟩] cards_plain
theorem cards_plain.q : FunQuiet cards_plain.c.F := mkFun_quiet rfl rfl
theorem cards_plain.s : cards_plain.c.ok Tryz.prog := sdR 18 [(2, 225)] (.z (.z .std)) kn kn Tryz.func194

def cards_Same : (tC × tC) → Option (Bool) := fun (a0, b1) =>
 (slices_Equal_int_int (a0.2.2.2.2.1, b1.2.2.2.2.1)).bind fun r9 =>
  if (!r9) = false then
   (api_Span (a0.2.2.2.2.2.2.2.1, b1.2.2.2.2.2.2.2.1)).bind fun r16 =>
    if (!r16) = true then
     some false
    else
     (cards_plain a0).bind fun r20 =>
      (cards_plain b1).bind fun r22 =>
       some ((((r20.1 == r22.1) && ((r20.2.1 == r22.2.1) && ((r20.2.2.1 == r22.2.2.1) && ((r20.2.2.2.1 == r22.2.2.2.1) && ((r20.2.2.2.2.1 == r22.2.2.2.2.1) && ((r20.2.2.2.2.2.1 == r22.2.2.2.2.2.1) && (r20.2.2.2.2.2.2 == r22.2.2.2.2.2.2)))))))))
  else
   some false

def cards_Same.c : Callee' := mkC 171 ⟨24, 0, [], [0, 1], (.cons (.v (yC)) (.cons (.v (yC)) .nil))⟩ [⟨24, 0, [], [4], (cB .nil)⟩] cards_Same
theorem cards_Same.q : FunQuiet cards_Same.c.F := mkFun_quiet rfl rfl
theorem cards_Same.s : cards_Same.c.ok Tryz.prog := sd 24 (.z (.seq (.seq (.reg [.std, .std, .std, .std, .callq [slices_Equal_int_int.c], .std, .std, .std, .std, .std, .std, .callq [api_Span.c]]) (.cond (.z .std) .std)) (.seq (.drw [.std, .callq [cards_plain.c], .std, .callq [cards_plain.c], .eqs 225]) .std))) (kc slices_Equal_int_int.s (kc api_Span.s (kc cards_plain.s (kc cards_plain.s kn)))) (kc slices_Equal_int_int.q (kc api_Span.q (kc cards_plain.q (kc cards_plain.q kn)))) Tryz.func171

def cards_none : tC → Option (Bool) := fun c0 =>
 (cards_Same (c0, 0, 0, 0, 0, ([] : tI), 0, 0, ([] : List (Int × Int × Int)), 0)).bind fun r5 =>
  some r5

def cards_none.c : Callee' := mkC 141 ⟨6, 0, [], [0], (.cons (.v (yC)) .nil)⟩ [⟨6, 0, [], [2], (cB .nil)⟩] cards_none
theorem cards_none.q : FunQuiet cards_none.c.F := mkFun_quiet rfl rfl
theorem cards_none.s : cards_none.c.ok Tryz.prog := sd 6 (.z (.seq (.rq 2 cards_Same.c) .std)) (kc cards_Same.s kn) (kc cards_Same.q kn) Tryz.func141

def cards_odd : Int → Option (Bool) := fun n0 =>
 if decide (n0 < 0) = false then
  some ((decide (n0 > 65535)))
 else
  some true

def cards_odd.c : Callee' := mkC 142 ⟨9, 0, [], [0], (cI .nil)⟩ [⟨9, 0, [], [2], (cB .nil)⟩] cards_odd
theorem cards_odd.q : FunQuiet cards_odd.c.F := mkFun_quiet rfl rfl
theorem cards_odd.s : cards_odd.c.ok Tryz.prog := sd 9 (.z (.z .std)) kn kn Tryz.func142

def slices_IndexFunc_int_int.l1 : (tI × Int × Int) → Option ((tI × Int × Int) ⊕ (Unit ⊕ Int)) := fun (s0, t7, t8) =>
 if decide (t8 < t7) = true then
  if 0 ≤ t8 ∧ t8 < (s0.length : Int) then
   (cards_odd (s0.getD t8.toNat 0)).bind fun r16 =>
    if r16 = true then
     some (.inr (.inr t8))
    else
     some (.inl ((s0, t7, i64.wrap (t8 + 1))))
  else none
 else
  some (.inr (.inl ()))

def slices_IndexFunc_int_int : tI → Option (Int) := fun s0 =>
 (loopO slices_IndexFunc_int_int.l1 ((s0, (s0.length : Int), 0))).bind fun d => match d with
 | .inl _ =>
  some (-1)
 | .inr t4 =>
  some t4

def slices_IndexFunc_int_int.c : Callee' := mkC 112 ⟨19, 0, [], [0, 1], (.cons (.v (.sl I)) (.cons (.fn (.func 142) .nil .nil) .nil))⟩ [⟨19, 0, [], [4], (cI .nil)⟩] slices_IndexFunc_int_int
theorem slices_IndexFunc_int_int.q : FunQuiet slices_IndexFunc_int_int.c.F := mkFun_quiet rfl rfl
theorem slices_IndexFunc_int_int.s : slices_IndexFunc_int_int.c.ok Tryz.prog := sd 19 (.z (.seq (.z (.block (.loop ⟨19, 0, [], [0, 1, 7, 8], (.cons (.v (.sl I)) (.cons (.fn (.func 142) .nil .nil) (cI (cI .nil))))⟩ [(.exit 0, ⟨19, 0, [], [], .nil⟩), (.ret, ⟨19, 0, [], [4], (cI .nil)⟩)]
  (.z (.seq (.cond .std .std) (.seq (.block (.z (.seq (.rq 5 cards_odd.c) (.cond (.z .std) .std)))) (.reg []))))))) (.z .std))) (kc cards_odd.s kn) (kc cards_odd.q kn) Tryz.func112

def slices_ContainsFunc_int_int : tI → Option (Bool) := fun s0 =>
 (slices_IndexFunc_int_int s0).bind fun r7 =>
  some ((decide (r7 ≥ 0)))

def slices_ContainsFunc_int_int.c : Callee' := mkC 64 ⟨9, 0, [], [0, 1], (.cons (.v (.sl I)) (.cons (.fn (.func 142) .nil .nil) .nil))⟩ [⟨9, 0, [], [4], (cB .nil)⟩] slices_ContainsFunc_int_int
theorem slices_ContainsFunc_int_int.q : FunQuiet slices_ContainsFunc_int_int.c.F := mkFun_quiet rfl rfl
theorem slices_ContainsFunc_int_int.s : slices_ContainsFunc_int_int.c.ok Tryz.prog := sd 9 (.z (.seq (.rq 2 slices_IndexFunc_int_int.c) .std)) (kc slices_IndexFunc_int_int.s kn) (kc slices_IndexFunc_int_int.q kn) Tryz.func64

def cards_head : (tC × Int) → Option (Bool) := fun (c0, blocks1) =>
 ((
  if (c0.2.1 == 1) = false then
   some (((c0, blocks1, (c0.2.1 == 2))))
  else
   some (((c0, blocks1, true)))) : Option (tC × Int × Bool)).bind fun ((c2a, c2b, c2c, c2d, c2e, c2f, c2g, c2h, c2i), blocks1, kind5) =>
  if kind5 = true then
   if decide (c2c ≥ 1) = true then
    if decide (c2c ≤ 200) = true then
     if decide (c2d ≥ 0) = true then
      some ((decide (c2d ≤ i64.wrap (128 * blocks1))))
     else
      some false
    else
     some false
   else
    some false
  else
   some false

def cards_head.c : Callee' := mkC 143 ⟨37, 0, [], [0, 1], (.cons (.v (yC)) (cI .nil))⟩ [⟨37, 0, [], [4], (cB .nil)⟩] cards_head
theorem cards_head.q : FunQuiet cards_head.c.F := mkFun_quiet rfl rfl
theorem cards_head.s : cards_head.c.ok Tryz.prog := sd 37 (.z (.join [(.norm, ⟨37, 0, [.box (cI (cI (cI (cI (.cons (.v (.sl I)) (cI (cI (.cons (.v (.sl (.st (.pair I (.pair I I))))) (cI .nil)))))))))], [1, 2, 5], (cI (cr 0 (cB .nil)))⟩)]
  (.reg []) (.z .std))) kn kn Tryz.func143

def spans_odd : (Int × Int × Int) → Option (Bool) := fun s0 =>
 if decide (s0.1 < 0) = false then
  if decide (s0.2.1 < 1) = false then
   if decide (s0.2.2 < 1) = false then
    if decide (s0.2.2 ≥ 65536) = false then
     if decide (s0.1 > i64.wrap (65536 - s0.2.2)) = false then
      some ((decide (s0.2.1 > i64.wrap (65536 - s0.2.2))))
     else
      some true
    else
     some true
   else
    some true
  else
   some true
 else
  some true

def spans_odd.c : Callee' := mkC 137 ⟨37, 0, [], [0], (.cons (.v (.st (.pair I (.pair I I)))) .nil)⟩ [⟨37, 0, [], [2], (cB .nil)⟩] spans_odd
theorem spans_odd.q : FunQuiet spans_odd.c.F := mkFun_quiet rfl rfl
theorem spans_odd.s : spans_odd.c.ok Tryz.prog := sd 37 (.z (.z .std)) kn kn Tryz.func137

def spans_joins : ((Int × Int × Int) × Int × Int × Int) → Option (Bool) := fun (a0, b1) =>
 if (i64.wrap (a0.1 + a0.2.2) == b1.1) = true then
  some (((i64.wrap (a0.2.1 + a0.2.2) == b1.2.1)))
 else
  some false

def spans_joins.c : Callee' := mkC 138 ⟨23, 0, [], [0, 1], (.cons (.v (.st (.pair I (.pair I I)))) (.cons (.v (.st (.pair I (.pair I I)))) .nil))⟩ [⟨23, 0, [], [4], (cB .nil)⟩] spans_joins
theorem spans_joins.q : FunQuiet spans_joins.c.F := mkFun_quiet rfl rfl
theorem spans_joins.s : spans_joins.c.ok Tryz.prog := sd 23 (.z (.z .std)) kn kn Tryz.func138

def spans_Right.l1 : ((List (Int × Int × Int)) × (List (Int × Int × Int)) × Int × Int) → Option (((List (Int × Int × Int)) × (List (Int × Int × Int)) × Int × Int) ⊕ (Unit ⊕ Bool)) := fun (l0, t5, t6, t7) =>
 if decide (t7 < t6) = true then
  if 0 ≤ t7 ∧ t7 < (t5.length : Int) then
   (spans_odd (t5.getD t7.toNat (0, (0, 0)))).bind fun r13 =>
    if r13 = false then
     if decide (t7 > 0) = true then
      if 0 ≤ i64.wrap (t7 - 1) ∧ i64.wrap (t7 - 1) < (l0.length : Int) then
       if 0 ≤ i64.wrap (t7 - 1) ∧ i64.wrap (t7 - 1) < (l0.length : Int) then
        if decide ((t5.getD t7.toNat (0, (0, 0))).1 < i64.wrap (((l0.getD ((i64.wrap (t7 - 1)).toNat) (0, (0, 0))).1) + (((l0.getD ((i64.wrap (t7 - 1)).toNat) (0, (0, 0))).2).2))) = false then
         if 0 ≤ i64.wrap (t7 - 1) ∧ i64.wrap (t7 - 1) < (l0.length : Int) then
          (spans_joins (l0.getD ((i64.wrap (t7 - 1)).toNat) (0, (0, 0)), t5.getD t7.toNat (0, (0, 0)))).bind fun r41 =>
           if r41 = true then
            some (.inr (.inr false))
           else
            some (.inl ((l0, t5, t6, i64.wrap (t7 + 1))))
         else none
        else
         some (.inr (.inr false))
       else none
      else none
     else
      some (.inl ((l0, t5, t6, i64.wrap (t7 + 1))))
    else
     some (.inr (.inr false))
  else none
 else
  some (.inr (.inl ()))

def spans_Right : (List (Int × Int × Int)) → Option (Bool) := fun l0 =>
 (loopO spans_Right.l1 ((l0, l0, (l0.length : Int), 0))).bind fun d => match d with
 | .inl _ =>
  some true
 | .inr t2 =>
  some t2

def spans_Right.c : Callee' := mkC 88 ⟨46, 0, [], [0], (.cons (.v (.sl (.st (.pair I (.pair I I))))) .nil)⟩ [⟨46, 0, [], [2], (cB .nil)⟩] spans_Right
theorem spans_Right.q : FunQuiet spans_Right.c.F := mkFun_quiet rfl rfl
def spans_Right.ann : Ann := (.z (.seq (.z (.block (.loop ⟨46, 0, [], [0, 5, 6, 7], (.cons (.v (.sl (.st (.pair I (.pair I I))))) (.cons (.v (.sl (.st (.pair I (.pair I I))))) (cI (cI .nil))))⟩ [(.exit 0, ⟨46, 0, [], [], .nil⟩), (.ret, ⟨46, 0, [], [2], (cB .nil)⟩)]
  (.z (.seq (.cond .std .std) (.seq (.block (.z (.seq (.drw [.std, .callq [spans_odd.c], .std, .std, .std, .std, .std, .std, .std, .std, .std, .std, .std, .std, .std, .std, .std, .std, .std, .std, .std, .std, .std, .std, .std, .std, .std, .std, .std, .callq [spans_joins.c]]) (.cond (.z .std) .std)))) (.reg []))))))) (.z .std)))
theorem spans_Right.s : spans_Right.c.ok Tryz.prog := sd 46 spans_Right.ann (kc spans_odd.s (kc spans_joins.s kn)) (kc spans_odd.q (kc spans_joins.q kn)) Tryz.func88

def cards_Right : tC → Option (Bool) := fun c0 =>
 (slices_Concat_int_int ([c0.2.2.2.2.1, ([c0.2.2.2.2.2.1, c0.2.2.2.2.2.2.1, c0.2.2.2.2.2.2.2.2] : tI)] : List tI)).bind fun r15 =>
  (cards_none c0).bind fun r18 =>
   if r18 = true then
    some true
   else
    (slices_ContainsFunc_int_int r15).bind fun r21 =>
     if r21 = true then
      some false
     else
      if (c0.1 == 1) = true then
       (cards_head (c0, 76)).bind fun r27 =>
        if r27 = true then
         if ((c0.2.2.2.2.1.length : Int) == 4) = true then
          if ((c0.2.2.2.2.2.2.2.1.length : Int) == 0) = true then
           some (((c0.2.2.2.2.2.2.2.2 == 0)))
          else
           some false
         else
          some false
        else
         some false
      else
       if (c0.1 == 2) = true then
        ((
         if decide ((c0.2.2.2.2.2.2.2.1.length : Int) ≤ 3) = true then
          (spans_Right c0.2.2.2.2.2.2.2.1).bind fun r56 =>
           if r56 = true then
            if (c0.2.2.2.2.2.2.2.2 == 0) = false then
             some (((c0, ((c0.2.2.2.2.2.2.2.1.length : Int) == 3))))
            else
             some (((c0, true)))
           else
            some (((c0, false)))
         else
          some (((c0, false)))) : Option (tC × Bool)).bind fun ((c1a, c1b, c1c, c1d, c1e, c1f, c1g, c1h, c1i), runs4) =>
         (cards_head ((c1a, c1b, c1c, c1d, c1e, c1f, c1g, c1h, c1i), 120)).bind fun r70 =>
          if r70 = true then
           if runs4 = true then
            if ((c1e.length : Int) == 0) = true then
             if (c1f == 0) = true then
              some (((c1g == 0)))
             else
              some false
            else
             some false
           else
            some false
          else
           some false
       else
        some false

def cards_Right.c : Callee' := mkC 90 ⟨90, 0, [], [0], (.cons (.v (yC)) .nil)⟩ [⟨90, 0, [], [2], (cB .nil)⟩] cards_Right
theorem cards_Right.q : FunQuiet cards_Right.c.F := mkFun_quiet rfl rfl
theorem cards_Right.s : cards_Right.c.ok Tryz.prog := sd 90 (.z (.seq (.reg [.std, .std, .std, .std, .std, .std, .std, .std, .inl I, .inl (.sl I), .callq [slices_Concat_int_int.c]]) (.seq (.block (.seq (.reg [.std, .callq [cards_none.c]]) (.cond (.z .std) (.seq (.reg [.std, .callq [slices_ContainsFunc_int_int.c]]) (.cond (.z .std) (.z (.cond (.seq (.reg [.std, .callq [cards_head.c]]) .std) (.z (.cond (.join [(.norm, ⟨90, 0, [.box (cI (cI (cI (cI (.cons (.v (.sl I)) (cI (cI (.cons (.v (.sl (.st (.pair I (.pair I I))))) (cI .nil)))))))))], [1, 4], (cr 0 (cB .nil))⟩)]
  (.rq 7 spans_Right.c) (.seq (.reg [.std, .callq [cards_head.c]]) .std)) .std))))))))) (.z .std)))) (kc slices_Concat_int_int.s (kc cards_none.s (kc slices_ContainsFunc_int_int.s (kc cards_head.s (kc spans_Right.s (kc cards_head.s kn)))))) (kc slices_Concat_int_int.q (kc cards_none.q (kc slices_ContainsFunc_int_int.q (kc cards_head.q (kc spans_Right.q (kc cards_head.q kn)))))) Tryz.func90

def log_Log_Read : (((tS × (tL) × Int × Int) × Bool × Int) × Int) → Option tB := fun (l0, i1) =>
 (slab_Slab_Read (l0.1, i1)).bind fun r12 =>
  some r12

def log_Log_Read.c : Callee' := mkC 116 ⟨13, 0, [], [0, 1], (.cons (.v (.ptr (.pair (.ptr (.pair (.sl .str) (.pair (.map I .str) (.pair I I)))) (.pair .bool I)))) (cI .nil))⟩ [⟨13, 0, [], [4], (cS .nil)⟩] log_Log_Read
theorem log_Log_Read.q : FunQuiet log_Log_Read.c.F := mkFun_quiet rfl rfl
theorem log_Log_Read.s : log_Log_Read.c.ok Tryz.prog := sd 13 (.z (.seq (.seq (.reg [.std, .obj .bool]) (.cond (.z .std) .std)) (.seq (.rq 5 slab_Slab_Read.c) .std))) (kc slab_Slab_Read.s kn) (kc slab_Slab_Read.q kn) Tryz.func116

def deal_written_get : ((((tS × (tL) × Int × Int) × Bool × Int) × tL) × Int) → Option tB := fun (w0, i1) =>
 if (mget (K := I) (V := .str) w0.2 i1).isSome = true then
  some ((((mget (K := I) (V := .str) w0.2 i1).getD [])))
 else
  (log_Log_Read (w0.1, i1)).bind fun r23 =>
   some r23

def deal_written_get.c : Callee' := mkC 136 ⟨24, 0, [], [0, 1], (.cons (.v (.ptr (.pair (.ptr (.pair (.ptr (.pair (.sl .str) (.pair (.map I .str) (.pair I I)))) (.pair .bool I))) (.map I .str)))) (cI .nil))⟩ [⟨24, 0, [], [4], (cS .nil)⟩] deal_written_get
theorem deal_written_get.q : FunQuiet deal_written_get.c.F := mkFun_quiet rfl rfl
theorem deal_written_get.s : deal_written_get.c.ok Tryz.prog := sd 24 (.z (.seq (.z (.z (.cond (.z .std) .std))) (.seq (.rq 5 log_Log_Read.c) .std))) (kc log_Log_Read.s kn) (kc log_Log_Read.q kn) Tryz.func136

def stringslite_HasPrefix : (tB × tB) → Option (Bool) := fun (s0, prefix1) =>
 if decide ((s0.length : Int) ≥ (prefix1.length : Int)) = true then
  if 0 ≤ (prefix1.length : Int) ∧ (prefix1.length : Int) ≤ (s0.length : Int) then
   some ((((s0.take ((prefix1.length : Int)).toNat) == prefix1)))
  else none
 else
  some false

def stringslite_HasPrefix.c : Callee' := mkC 177 ⟨18, 0, [], [0, 1], (cS (cS .nil))⟩ [⟨18, 0, [], [4], (cB .nil)⟩] stringslite_HasPrefix
theorem stringslite_HasPrefix.q : FunQuiet stringslite_HasPrefix.c.F := mkFun_quiet rfl rfl
theorem stringslite_HasPrefix.s : stringslite_HasPrefix.c.ok Tryz.prog := sd 18 (.z (.z .std)) kn kn Tryz.func177

def stringslite_CutPrefix : (tB × tB) → Option (tB × Bool) := fun (s0, prefix1) =>
 (stringslite_HasPrefix (s0, prefix1)).bind fun r8 =>
  if (!r8) = true then
   some (((s0, false)))
  else
   if 0 ≤ (prefix1.length : Int) ∧ (prefix1.length : Int) ≤ (s0.length : Int) then
    some (((s0.drop ((prefix1.length : Int)).toNat, true)))
   else none

def stringslite_CutPrefix.c : Callee' := mkC 195 ⟨15, 0, [], [0, 1], (cS (cS .nil))⟩ [⟨15, 0, [], [4, 5], (cS (cB .nil))⟩] stringslite_CutPrefix
theorem stringslite_CutPrefix.q : FunQuiet stringslite_CutPrefix.c.F := mkFun_quiet rfl rfl
theorem stringslite_CutPrefix.s : stringslite_CutPrefix.c.ok Tryz.prog := sd 15 (.z (.seq (.seq (.rq 2 stringslite_HasPrefix.c) (.cond (.z .std) .std)) (.z .std))) (kc stringslite_HasPrefix.s kn) (kc stringslite_HasPrefix.q kn) Tryz.func195

def strings_CutPrefix : (tB × tB) → Option (tB × Bool) := fun (s0, prefix1) =>
 (stringslite_CutPrefix (s0, prefix1)).bind fun (r8, r8_2) =>
  some (((r8, r8_2)))

def strings_CutPrefix.c : Callee' := mkC 172 ⟨11, 0, [], [0, 1], (cS (cS .nil))⟩ [⟨11, 0, [], [4, 5], (cS (cB .nil))⟩] strings_CutPrefix
theorem strings_CutPrefix.q : FunQuiet strings_CutPrefix.c.F := mkFun_quiet rfl rfl
theorem strings_CutPrefix.s : strings_CutPrefix.c.ok Tryz.prog := sd 11 (.z (.seq (.rq 2 stringslite_CutPrefix.c) .std)) (kc stringslite_CutPrefix.s kn) (kc stringslite_CutPrefix.q kn) Tryz.func172

def crown_Read : tB → Option ((Int × Int × Int) × Int) := fun s0 =>
 (strings_CutPrefix (s0, ([119, 97, 105, 110, 119, 114, 105, 103, 104, 116] : tB))).bind fun (r11, r11_2) =>
  (crown_widths ()).bind fun r15 =>
   (mould_Read (r15, r11)).bind fun (r17, r17_2) =>
    if (!r11_2) = false then
     if (r17_2 != 0) = false then
      if ((s0.length : Int) != 128) = false then
       (crown_widths ()).bind fun r33 =>
        (mould_Size r33).bind fun r34 =>
         if 0 ≤ r34 ∧ r34 ≤ (r11.length : Int) then
          (strings_Trim (r11.drop r34.toNat, ([0] : tB))).bind fun r36 =>
           if (!(r36 == [])) = true then
            some ((((0, 0, 0), 15)))
           else
            if 0 ≤ (0 : Int) ∧ (0 : Int) < (r17.length : Int) then
             if 0 ≤ (1 : Int) ∧ (1 : Int) < (r17.length : Int) then
              if 0 ≤ (2 : Int) ∧ (2 : Int) < (r17.length : Int) then
               (crown_Right (r17.getD 0 0, r17.getD 1 0, r17.getD 2 0)).bind fun r51 =>
                if (!r51) = true then
                 some ((((0, 0, 0), 15)))
                else
                 some ((((r17.getD 0 0, r17.getD 1 0, r17.getD 2 0), 0)))
              else none
             else none
            else none
         else none
      else
       some ((((0, 0, 0), 15)))
     else
      some ((((0, 0, 0), 15)))
    else
     some ((((0, 0, 0), 15)))

def crown_Read.c : Callee' := mkC 144 ⟨55, 0, [], [0], (cS .nil)⟩ [⟨56, 0, [], [55, 3], (.cons (.v (.st (.pair I (.pair I I)))) (cI .nil))⟩] crown_Read
theorem crown_Read.q : FunQuiet crown_Read.c.F := mkFun_quiet rfl rfl
theorem crown_Read.s : crown_Read.c.ok Tryz.prog := sdR 55 [(2, 62)] (.z (.seq (.reg [.std, .callq [strings_CutPrefix.c]]) (.seq (.reg [.callq [crown_widths.c], .std, .callq [mould_Read.c]]) (.seq (.seq (.reg [.std, .std, .std, .std, .std, .std, .std, .std, .std, .std, .std, .std, .std, .callq [crown_widths.c], .callq [mould_Size.c], .std, .callq [strings_Trim.c]]) (.cond (.z .std) .std)) (.seq (.drw []) (.seq (.seq (.reg [.std, .callq [crown_Right.c]]) (.cond (.z .std) .std)) (.z .std))))))) (kc strings_CutPrefix.s (kc crown_widths.s (kc mould_Read.s (kc crown_widths.s (kc mould_Size.s (kc strings_Trim.s (kc crown_Right.s kn))))))) (kc strings_CutPrefix.q (kc crown_widths.q (kc mould_Read.q (kc crown_widths.q (kc mould_Size.q (kc strings_Trim.q (kc crown_Right.q kn))))))) Tryz.func144

def deal_Deal_Crown : (((tS × (tL) × Int × Int) × Bool × Int) × tL) → Option ((Int × Int × Int) × Int) := fun d0 =>
 (deal_written_get (d0, 0)).bind fun r13 =>
  (crown_Read r13).bind fun (r14, r14_2) =>
   if (r14_2 != 0) = false then
    (log_Log_Size d0.1).bind fun r27 =>
     if decide (r14.2.1 > r27) = true then
      some ((((0, 0, 0), 15)))
     else
      some (((r14, 0)))
   else
    some ((((0, 0, 0), 15)))

def deal_Deal_Crown.c : Callee' := mkC 91 ⟨32, 0, [], [0], (.cons (.v (.ptr (.pair (.ptr (.pair (.ptr (.pair (.sl .str) (.pair (.map I .str) (.pair I I)))) (.pair .bool I))) (.map I .str)))) .nil)⟩ [⟨33, 0, [], [32, 3], (.cons (.v (.st (.pair I (.pair I I)))) (cI .nil))⟩] deal_Deal_Crown
theorem deal_Deal_Crown.q : FunQuiet deal_Deal_Crown.c.F := mkFun_quiet rfl rfl
theorem deal_Deal_Crown.s : deal_Deal_Crown.c.ok Tryz.prog := sdR 32 [(2, 62)] (.z (.seq (.seq (.reg [.std, .obj .bool]) (.cond (.z .std) .std)) (.seq (.reg [.std, .std, .std, .callq [deal_written_get.c], .callq [crown_Read.c]]) (.seq (.seq (.drw [.std, .std, .std, .std, .std, .std, .std, .std, .std, .std, .callq [log_Log_Size.c]]) (.cond (.z .std) .std)) (.z .std))))) (kc deal_written_get.s (kc crown_Read.s (kc log_Log_Size.s kn))) (kc deal_written_get.q (kc crown_Read.q (kc log_Log_Size.q kn))) Tryz.func91

def deal_Deal_Read : ((((tS × (tL) × Int × Int) × Bool × Int) × tL) × Int) → Option (tB × Int) := fun (d0, i1) =>
 (deal_written_there (d0, i1)).bind fun r13 =>
  if (!r13) = true then
   some ((([], 1)))
  else
   (deal_written_get (d0, i1)).bind fun r20 =>
    some (((r20, 0)))

def deal_Deal_Read.c : Callee' := mkC 85 ⟨21, 0, [], [0, 1], (.cons (.v (.ptr (.pair (.ptr (.pair (.ptr (.pair (.sl .str) (.pair (.map I .str) (.pair I I)))) (.pair .bool I))) (.map I .str)))) (cI .nil))⟩ [⟨21, 0, [], [4, 5], (cS (cI .nil))⟩] deal_Deal_Read
theorem deal_Deal_Read.q : FunQuiet deal_Deal_Read.c.F := mkFun_quiet rfl rfl
theorem deal_Deal_Read.s : deal_Deal_Read.c.ok Tryz.prog := sd 21 (.z (.seq (.seq (.reg [.std, .obj .bool, .std, .std, .std, .std, .std, .callq [deal_written_there.c]]) (.cond (.z .std) .std)) (.seq (.rq 4 deal_written_get.c) .std))) (kc deal_written_there.s (kc deal_written_get.s kn)) (kc deal_written_there.q (kc deal_written_get.q kn)) Tryz.func85

def ladder_widths : Unit → Option tI := fun _ =>
 (slices_Repeat_int_int (([2] : tI), 8)).bind fun r2 =>
  some r2

def ladder_widths.c : Callee' := mkC 155 ⟨3, 0, [], [], .nil⟩ [⟨3, 0, [], [0], (.cons (.v (.sl I)) .nil)⟩] ladder_widths
theorem ladder_widths.q : FunQuiet ladder_widths.c.F := mkFun_quiet rfl rfl
theorem ladder_widths.s : ladder_widths.c.ok Tryz.prog := sd 3 (.z (.seq (.reg [.inl I, .callq [slices_Repeat_int_int.c]]) .std)) (kc slices_Repeat_int_int.s kn) (kc slices_Repeat_int_int.q kn) Tryz.func155

def ladder_Read : tB → Option (tI × Int) := fun s0 =>
 (ladder_widths ()).bind fun r7 =>
  (mould_Read (r7, s0)).bind fun (r9, r9_2) =>
   if (r9_2 != 0) = false then
    if ((s0.length : Int) != 128) = false then
     if 0 ≤ (16 : Int) ∧ (16 : Int) ≤ (s0.length : Int) then
      (strings_Trim (s0.drop 16, ([0] : tB))).bind fun r22 =>
       if (!(r22 == [])) = true then
        some (((([] : tI), 15)))
       else
        some (((r9, 0)))
     else none
    else
     some (((([] : tI), 15)))
   else
    some (((([] : tI), 15)))

def ladder_Read.c : Callee' := mkC 180 ⟨26, 0, [], [0], (cS .nil)⟩ [⟨26, 0, [], [2, 3], (.cons (.v (.sl I)) (cI .nil))⟩] ladder_Read
theorem ladder_Read.q : FunQuiet ladder_Read.c.F := mkFun_quiet rfl rfl
theorem ladder_Read.s : ladder_Read.c.ok Tryz.prog := sd 26 (.z (.seq (.reg [.callq [ladder_widths.c], .std, .callq [mould_Read.c]]) (.seq (.seq (.rq 10 strings_Trim.c) (.cond (.z .std) .std)) (.z .std)))) (kc ladder_widths.s (kc mould_Read.s (kc strings_Trim.s kn))) (kc ladder_widths.q (kc mould_Read.q (kc strings_Trim.q kn))) Tryz.func180

def chains_reader_list_1 : Int → Option (Bool) := fun n0 =>
 some (((n0 != 0)))

def chains_reader_list_1.c : Callee' := mkC 181 ⟨5, 0, [], [0], (cI .nil)⟩ [⟨5, 0, [], [2], (cB .nil)⟩] chains_reader_list_1
theorem chains_reader_list_1.q : FunQuiet chains_reader_list_1.c.F := mkFun_quiet rfl rfl
theorem chains_reader_list_1.s : chains_reader_list_1.c.ok Tryz.prog := sd 5 (.z (.z .std)) kn kn Tryz.func181

def slices_IndexFunc_int_int_1.l1 : (tI × Int × Int) → Option ((tI × Int × Int) ⊕ (Unit ⊕ Int)) := fun (s0, t7, t8) =>
 if decide (t8 < t7) = true then
  if 0 ≤ t8 ∧ t8 < (s0.length : Int) then
   (chains_reader_list_1 (s0.getD t8.toNat 0)).bind fun r16 =>
    if r16 = true then
     some (.inr (.inr t8))
    else
     some (.inl ((s0, t7, i64.wrap (t8 + 1))))
  else none
 else
  some (.inr (.inl ()))

def slices_IndexFunc_int_int_1 : tI → Option (Int) := fun s0 =>
 (loopO slices_IndexFunc_int_int_1.l1 ((s0, (s0.length : Int), 0))).bind fun d => match d with
 | .inl _ =>
  some (-1)
 | .inr t4 =>
  some t4

def slices_IndexFunc_int_int_1.c : Callee' := mkC 112 ⟨19, 0, [], [0, 1], (.cons (.v (.sl I)) (.cons (.fn (.func 181) .nil .nil) .nil))⟩ [⟨19, 0, [], [4], (cI .nil)⟩] slices_IndexFunc_int_int_1
theorem slices_IndexFunc_int_int_1.q : FunQuiet slices_IndexFunc_int_int_1.c.F := mkFun_quiet rfl rfl
theorem slices_IndexFunc_int_int_1.s : slices_IndexFunc_int_int_1.c.ok Tryz.prog := sd 19 (.z (.seq (.z (.block (.loop ⟨19, 0, [], [0, 1, 7, 8], (.cons (.v (.sl I)) (.cons (.fn (.func 181) .nil .nil) (cI (cI .nil))))⟩ [(.exit 0, ⟨19, 0, [], [], .nil⟩), (.ret, ⟨19, 0, [], [4], (cI .nil)⟩)]
  (.z (.seq (.cond .std .std) (.seq (.block (.z (.seq (.rq 5 chains_reader_list_1.c) (.cond (.z .std) .std)))) (.reg []))))))) (.z .std))) (kc chains_reader_list_1.s kn) (kc chains_reader_list_1.q kn) Tryz.func112

def slices_ContainsFunc_int_int_1 : tI → Option (Bool) := fun s0 =>
 (slices_IndexFunc_int_int_1 s0).bind fun r7 =>
  some ((decide (r7 ≥ 0)))

def slices_ContainsFunc_int_int_1.c : Callee' := mkC 64 ⟨9, 0, [], [0, 1], (.cons (.v (.sl I)) (.cons (.fn (.func 181) .nil .nil) .nil))⟩ [⟨9, 0, [], [4], (cB .nil)⟩] slices_ContainsFunc_int_int_1
theorem slices_ContainsFunc_int_int_1.q : FunQuiet slices_ContainsFunc_int_int_1.c.F := mkFun_quiet rfl rfl
theorem slices_ContainsFunc_int_int_1.s : slices_ContainsFunc_int_int_1.c.ok Tryz.prog := sd 9 (.z (.seq (.rq 2 slices_IndexFunc_int_int_1.c) .std)) (kc slices_IndexFunc_int_int_1.s kn) (kc slices_IndexFunc_int_int_1.q kn) Tryz.func64

def crown_Owned : ((Int × Int × Int) × Int) → Option (Bool) := fun (c0, block1) =>
 (crown_Right c0).bind fun r6 =>
  if r6 = true then
   if decide (block1 ≥ 51) = true then
    some ((decide (block1 < c0.2.1)))
   else
    some false
  else
   some false

def crown_Owned.c : Callee' := mkC 72 ⟨17, 0, [], [0, 1], (.cons (.v (.st (.pair I (.pair I I)))) (cI .nil))⟩ [⟨17, 0, [], [4], (cB .nil)⟩] crown_Owned
theorem crown_Owned.q : FunQuiet crown_Owned.c.F := mkFun_quiet rfl rfl
theorem crown_Owned.s : crown_Owned.c.ok Tryz.prog := sd 17 (.z (.seq (.reg [.std, .callq [crown_Right.c]]) .std)) (kc crown_Right.s kn) (kc crown_Right.q kn) Tryz.func72

def chains_reader_odd : (((((tS × (tL) × Int × Int) × Bool × Int) × tL) × Int × Int × Int × Int × tI) × Int) → Option (Bool) := fun (r0, n1) =>
 if (n1 != 0) = true then
  (crown_Owned ((r0.2.1, r0.2.2.1, r0.2.2.2.1), n1)).bind fun r13 =>
   some (!r13)
 else
  some false

def chains_reader_odd.c : Callee' := mkC 65 ⟨16, 0, [], [0, 1], (.cons (.v (.ptr (.pair (.ptr (.pair (.ptr (.pair (.ptr (.pair (.sl .str) (.pair (.map I .str) (.pair I I)))) (.pair .bool I))) (.map I .str))) (.pair I (.pair I (.pair I (.pair I (.sl I)))))))) (cI .nil))⟩ [⟨16, 0, [], [4], (cB .nil)⟩] chains_reader_odd
theorem chains_reader_odd.q : FunQuiet chains_reader_odd.c.F := mkFun_quiet rfl rfl
theorem chains_reader_odd.s : chains_reader_odd.c.ok Tryz.prog := sd 16 (.z (.seq (.rq 8 crown_Owned.c) .std)) (kc crown_Owned.s kn) (kc crown_Owned.q kn) Tryz.func65

def slices_IndexFunc_int_int_2.l1 : (tI × ((((tS × (tL) × Int × Int) × Bool × Int) × tL) × Int × Int × Int × Int × tI) × Int × Int) → Option ((tI × ((((tS × (tL) × Int × Int) × Bool × Int) × tL) × Int × Int × Int × Int × tI) × Int × Int) ⊕ (Unit ⊕ Int)) := fun (s0, f1f0, t7, t8) =>
 if decide (t8 < t7) = true then
  if 0 ≤ t8 ∧ t8 < (s0.length : Int) then
   (chains_reader_odd (f1f0, s0.getD t8.toNat 0)).bind fun r16 =>
    if r16 = true then
     some (.inr (.inr t8))
    else
     some (.inl ((s0, f1f0, t7, i64.wrap (t8 + 1))))
  else none
 else
  some (.inr (.inl ()))

def slices_IndexFunc_int_int_2 : (tI × (((tS × (tL) × Int × Int) × Bool × Int) × tL) × Int × Int × Int × Int × tI) → Option (Int) := fun (s0, f1f0) =>
 (loopO slices_IndexFunc_int_int_2.l1 ((s0, f1f0, (s0.length : Int), 0))).bind fun d => match d with
 | .inl _ =>
  some (-1)
 | .inr t4 =>
  some t4

def slices_IndexFunc_int_int_2.c : Callee' := mkC 112 ⟨19, 0, [], [0, 1], (.cons (.v (.sl I)) (.cons (.fn (.func 65) (.cons (.v (.ptr (.pair (.ptr (.pair (.ptr (.pair (.ptr (.pair (.sl .str) (.pair (.map I .str) (.pair I I)))) (.pair .bool I))) (.map I .str))) (.pair I (.pair I (.pair I (.pair I (.sl I)))))))) .nil) .nil) .nil))⟩ [⟨19, 0, [], [4], (cI .nil)⟩] slices_IndexFunc_int_int_2
theorem slices_IndexFunc_int_int_2.q : FunQuiet slices_IndexFunc_int_int_2.c.F := mkFun_quiet rfl rfl
theorem slices_IndexFunc_int_int_2.s : slices_IndexFunc_int_int_2.c.ok Tryz.prog := sd 19 (.z (.seq (.z (.block (.loop ⟨19, 0, [], [0, 1, 7, 8], (.cons (.v (.sl I)) (.cons (.fn (.func 65) (.cons (.v (.ptr (.pair (.ptr (.pair (.ptr (.pair (.ptr (.pair (.sl .str) (.pair (.map I .str) (.pair I I)))) (.pair .bool I))) (.map I .str))) (.pair I (.pair I (.pair I (.pair I (.sl I)))))))) .nil) .nil) (cI (cI .nil))))⟩ [(.exit 0, ⟨19, 0, [], [], .nil⟩), (.ret, ⟨19, 0, [], [4], (cI .nil)⟩)]
  (.z (.seq (.cond .std .std) (.seq (.block (.z (.seq (.rq 5 chains_reader_odd.c) (.cond (.z .std) .std)))) (.reg []))))))) (.z .std))) (kc chains_reader_odd.s kn) (kc chains_reader_odd.q kn) Tryz.func112

def slices_ContainsFunc_int_int_2 : (tI × (((tS × (tL) × Int × Int) × Bool × Int) × tL) × Int × Int × Int × Int × tI) → Option (Bool) := fun (s0, f1f0) =>
 (slices_IndexFunc_int_int_2 (s0, f1f0)).bind fun r7 =>
  some ((decide (r7 ≥ 0)))

def slices_ContainsFunc_int_int_2.c : Callee' := mkC 64 ⟨9, 0, [], [0, 1], (.cons (.v (.sl I)) (.cons (.fn (.func 65) (.cons (.v (.ptr (.pair (.ptr (.pair (.ptr (.pair (.ptr (.pair (.sl .str) (.pair (.map I .str) (.pair I I)))) (.pair .bool I))) (.map I .str))) (.pair I (.pair I (.pair I (.pair I (.sl I)))))))) .nil) .nil) .nil))⟩ [⟨9, 0, [], [4], (cB .nil)⟩] slices_ContainsFunc_int_int_2
theorem slices_ContainsFunc_int_int_2.q : FunQuiet slices_ContainsFunc_int_int_2.c.F := mkFun_quiet rfl rfl
theorem slices_ContainsFunc_int_int_2.s : slices_ContainsFunc_int_int_2.c.ok Tryz.prog := sd 9 (.z (.seq (.rq 2 slices_IndexFunc_int_int_2.c) .std)) (kc slices_IndexFunc_int_int_2.s kn) (kc slices_IndexFunc_int_int_2.q kn) Tryz.func64

def ladder_wide : (tI × Int) → Option tI := fun (l0, n1) =>
 if 0 ≤ n1 ∧ n1 ≤ n1 ∧ n1 * (8 : Nat) ≤ 140737488355328 ∧ n1 ≤ 9223372036854775807 then
  some ((copyRow (List.replicate n1.toNat (0 : Int)) l0 0 ((List.replicate n1.toNat (0 : Int)).length)))
 else none

def ladder_wide.c : Callee' := mkC 108 ⟨12, 0, [], [0, 1], (.cons (.v (.sl I)) (cI .nil))⟩ [⟨12, 0, [], [4], (.cons (.v (.sl I)) .nil)⟩] ladder_wide
theorem ladder_wide.q : FunQuiet ladder_wide.c.F := mkFun_quiet rfl rfl
theorem ladder_wide.s : ladder_wide.c.ok Tryz.prog := sd 12 (.z (.seq (.reg [.std, .obj I]) (.seq (.reg [.std, .std, .obj I]) (.z .std)))) kn kn Tryz.func108

def slices_Concat_int_int_1.l1 : (List (tI) × Int × List (tI) × Int × Int) → Option ((List (tI) × Int × List (tI) × Int × Int) ⊕ (List (tI) × Int)) := fun (slices0, size3, t9, t10, t11) =>
 if decide (t11 < t10) = true then
  if 0 ≤ t11 ∧ t11 < (t9.length : Int) then
   if decide (i64.wrap (size3 + ((t9.getD t11.toNat []).length : Int)) < 0) = true then none else
   some (.inl ((slices0, i64.wrap (size3 + ((t9.getD t11.toNat []).length : Int)), t9, t10, i64.wrap (t11 + 1))))
  else none
 else
  some (.inr (((slices0, size3))))

def slices_Concat_int_int_1.l2 : (tI × List (tI) × Int × Int) → Option ((tI × List (tI) × Int × Int) ⊕ tI) := fun (newslice6, t25, t26, t27) =>
 if decide (t27 < t26) = true then
  if 0 ≤ t27 ∧ t27 < (t25.length : Int) then
   if roomOk (newslice6.length + (t25.getD t27.toNat []).length) 8 then
    some (.inl ((newslice6 ++ (t25.getD t27.toNat []), t25, t26, i64.wrap (t27 + 1))))
   else none
  else none
 else
  some (.inr newslice6)

def slices_Concat_int_int_1 : List tI → Option tI := fun slices0 =>
 (loopO slices_Concat_int_int_1.l1 ((slices0, 0, slices0, (slices0.length : Int), 0))).bind fun (slices0, size3) =>
  (slices_Grow_int_int_1 size3).bind fun r24 =>
   (loopO slices_Concat_int_int_1.l2 ((r24, slices0, (slices0.length : Int), 0))).bind fun newslice6 =>
    some newslice6

def slices_Concat_int_int_1.c : Callee' := mkC 140 ⟨36, 0, [], [0], (.cons (.v (.sl (.sl I))) .nil)⟩ [⟨36, 0, [.arr I], [2], (cr 0 .nil)⟩] slices_Concat_int_int_1
theorem slices_Concat_int_int_1.s : slices_Concat_int_int_1.c.ok Tryz.prog := sd 36 (.z (.z (.seq (.z (.block (.loop ⟨36, 0, [], [0, 3, 9, 10, 11], (.cons (.v (.sl (.sl I))) (cI (.cons (.v (.sl (.sl I))) (cI (cI .nil)))))⟩ [(.exit 0, ⟨36, 0, [], [0, 3], (.cons (.v (.sl (.sl I))) (cI .nil))⟩)]
  (.z (.seq (.cond .std .std) (.seq (.block (.z (.z (.z (.cond (.reg []) .std))))) (.reg []))))))) (.seq (.reg [.std, .call [slices_Grow_int_int_1.c]]) (.seq (.z (.block (.loop ⟨36, 0, [.arr I], [6, 25, 26, 27], (cr 0 (.cons (.v (.sl (.sl I))) (cI (cI .nil))))⟩ [(.exit 2, ⟨36, 0, [.arr I], [6], (cr 0 .nil)⟩)]
  (.z (.seq (.cond .std .std) (.seq (.block (.z (.reg [.std, .std, .obj I]))) (.reg []))))))) (.z .std)))))) (kc slices_Grow_int_int_1.s kn) kn Tryz.func140

def ladder_Map.l1 : (((tQ) × tI) × Int) → Option ((((tQ) × tI) × Int) ⊕ tI) := fun (((r1a, r1b, r1c), m3), t14) =>
 if decide (t14 < 8) = true then
  ((
   if decide (t14 < (r1c.length : Int)) = true then
    if 0 ≤ t14 ∧ t14 < (r1c.length : Int) then
     some (((((r1a, r1b, r1c), m3), r1c.getD t14.toNat [], t14)))
    else none
   else
    some (((((r1a, r1b, r1c), m3), ([] : tI), t14)))) : Option (((tQ) × tI) × tI × Int)).bind fun (((r1a, r1b, r1c), m3), l5, t14) =>
   (ladder_wide (l5, 8)).bind fun r29 =>
    if roomOk (m3.length + r29.length) 8 then
     some (.inl ((((r1a, r1b, r1c), m3 ++ r29), i64.wrap (t14 + 1))))
    else none
 else
  some (.inr m3)

def ladder_Map : tQ → Option tI := fun r0 =>
 (ladder_wide (r0.1, 4)).bind fun r8 =>
  (ladder_wide (r0.2.1, 8)).bind fun r11 =>
   (slices_Concat_int_int_1 ([r8, r11] : List tI)).bind fun r13 =>
    (loopO ladder_Map.l1 (((r0, r13), 0))).bind fun m3 =>
     some m3

def ladder_Map.c : Callee' := mkC 104 ⟨33, 0, [], [0], (.cons (.v (.st (.pair (.sl I) (.pair (.sl I) (.sl (.sl I)))))) .nil)⟩ [⟨33, 0, [], [2], (.cons (.v (.sl I)) .nil)⟩] ladder_Map
theorem ladder_Map.q : FunQuiet ladder_Map.c.F := mkFun_quiet rfl rfl
theorem ladder_Map.s : ladder_Map.c.ok Tryz.prog := sd 33 (.z (.seq (.drw [.std, .std, .callq [ladder_wide.c], .std, .std, .callq [ladder_wide.c], .inl (.sl I), .call [slices_Concat_int_int_1.c]]) (.seq (.z (.block (.loop ⟨33, 0, [.box (.cons (.v (.sl I)) (.cons (.v (.sl I)) (.cons (.v (.sl (.sl I))) .nil))), .arr I], [1, 3, 14], (cr 0 (cr 1 (cI .nil)))⟩ [(.exit 0, ⟨33, 0, [.arr I], [3], (cr 0 .nil)⟩)]
  (.z (.seq (.cond .std .std) (.seq (.block (.z (.z (.join [(.norm, ⟨33, 0, [.box (.cons (.v (.sl I)) (.cons (.v (.sl I)) (.cons (.v (.sl (.sl I))) .nil))), .arr I], [1, 3, 5, 14], (cr 0 (cr 1 (.cons (.v (.sl I)) (cI .nil))))⟩)]
  (.z (.cond (.reg []) .std)) (.reg [.std, .std, .callq [ladder_wide.c], .obj I]))))) (.reg []))))))) (.z .std)))) (kc ladder_wide.s (kc ladder_wide.s (kc slices_Concat_int_int_1.s (kc ladder_wide.s kn)))) (kc ladder_wide.q (kc ladder_wide.q (kc ladder_wide.q kn))) Tryz.func104

def ladder_used : Int → Option (Bool) := fun n0 =>
 some (((n0 != 0)))

def ladder_used.c : Callee' := mkC 106 ⟨5, 0, [], [0], (cI .nil)⟩ [⟨5, 0, [], [2], (cB .nil)⟩] ladder_used
theorem ladder_used.q : FunQuiet ladder_used.c.F := mkFun_quiet rfl rfl
theorem ladder_used.s : ladder_used.c.ok Tryz.prog := sd 5 (.z (.z .std)) kn kn Tryz.func106

def slices_IndexFunc_int_int_3.l1 : (tI × Int × Int) → Option ((tI × Int × Int) ⊕ (Unit ⊕ Int)) := fun (s0, t7, t8) =>
 if decide (t8 < t7) = true then
  if 0 ≤ t8 ∧ t8 < (s0.length : Int) then
   (ladder_used (s0.getD t8.toNat 0)).bind fun r16 =>
    if r16 = true then
     some (.inr (.inr t8))
    else
     some (.inl ((s0, t7, i64.wrap (t8 + 1))))
  else none
 else
  some (.inr (.inl ()))

def slices_IndexFunc_int_int_3 : tI → Option (Int) := fun s0 =>
 (loopO slices_IndexFunc_int_int_3.l1 ((s0, (s0.length : Int), 0))).bind fun d => match d with
 | .inl _ =>
  some (-1)
 | .inr t4 =>
  some t4

def slices_IndexFunc_int_int_3.c : Callee' := mkC 112 ⟨19, 0, [], [0, 1], (.cons (.v (.sl I)) (.cons (.fn (.func 106) .nil .nil) .nil))⟩ [⟨19, 0, [], [4], (cI .nil)⟩] slices_IndexFunc_int_int_3
theorem slices_IndexFunc_int_int_3.q : FunQuiet slices_IndexFunc_int_int_3.c.F := mkFun_quiet rfl rfl
theorem slices_IndexFunc_int_int_3.s : slices_IndexFunc_int_int_3.c.ok Tryz.prog := sd 19 (.z (.seq (.z (.block (.loop ⟨19, 0, [], [0, 1, 7, 8], (.cons (.v (.sl I)) (.cons (.fn (.func 106) .nil .nil) (cI (cI .nil))))⟩ [(.exit 0, ⟨19, 0, [], [], .nil⟩), (.ret, ⟨19, 0, [], [4], (cI .nil)⟩)]
  (.z (.seq (.cond .std .std) (.seq (.block (.z (.seq (.rq 5 ladder_used.c) (.cond (.z .std) .std)))) (.reg []))))))) (.z .std))) (kc ladder_used.s kn) (kc ladder_used.q kn) Tryz.func112

def slices_ContainsFunc_int_int_3 : tI → Option (Bool) := fun s0 =>
 (slices_IndexFunc_int_int_3 s0).bind fun r7 =>
  some ((decide (r7 ≥ 0)))

def slices_ContainsFunc_int_int_3.c : Callee' := mkC 64 ⟨9, 0, [], [0, 1], (.cons (.v (.sl I)) (.cons (.fn (.func 106) .nil .nil) .nil))⟩ [⟨9, 0, [], [4], (cB .nil)⟩] slices_ContainsFunc_int_int_3
theorem slices_ContainsFunc_int_int_3.q : FunQuiet slices_ContainsFunc_int_int_3.c.F := mkFun_quiet rfl rfl
theorem slices_ContainsFunc_int_int_3.s : slices_ContainsFunc_int_int_3.c.ok Tryz.prog := sd 9 (.z (.seq (.rq 2 slices_IndexFunc_int_int_3.c) .std)) (kc slices_IndexFunc_int_int_3.s kn) (kc slices_IndexFunc_int_int_3.q kn) Tryz.func64

def ladder_Of_1 : Int → Option (Bool) := fun n0 =>
 if decide (n0 < 0) = false then
  some ((decide (n0 > 65535)))
 else
  some true

def ladder_Of_1.c : Callee' := mkC 107 ⟨9, 0, [], [0], (cI .nil)⟩ [⟨9, 0, [], [2], (cB .nil)⟩] ladder_Of_1
theorem ladder_Of_1.q : FunQuiet ladder_Of_1.c.F := mkFun_quiet rfl rfl
theorem ladder_Of_1.s : ladder_Of_1.c.ok Tryz.prog := sd 9 (.z (.z .std)) kn kn Tryz.func107

def slices_IndexFunc_int_int_4.l1 : (tI × Int × Int) → Option ((tI × Int × Int) ⊕ (Unit ⊕ Int)) := fun (s0, t7, t8) =>
 if decide (t8 < t7) = true then
  if 0 ≤ t8 ∧ t8 < (s0.length : Int) then
   (ladder_Of_1 (s0.getD t8.toNat 0)).bind fun r16 =>
    if r16 = true then
     some (.inr (.inr t8))
    else
     some (.inl ((s0, t7, i64.wrap (t8 + 1))))
  else none
 else
  some (.inr (.inl ()))

def slices_IndexFunc_int_int_4 : tI → Option (Int) := fun s0 =>
 (loopO slices_IndexFunc_int_int_4.l1 ((s0, (s0.length : Int), 0))).bind fun d => match d with
 | .inl _ =>
  some (-1)
 | .inr t4 =>
  some t4

def slices_IndexFunc_int_int_4.c : Callee' := mkC 112 ⟨19, 0, [], [0, 1], (.cons (.v (.sl I)) (.cons (.fn (.func 107) .nil .nil) .nil))⟩ [⟨19, 0, [], [4], (cI .nil)⟩] slices_IndexFunc_int_int_4
theorem slices_IndexFunc_int_int_4.q : FunQuiet slices_IndexFunc_int_int_4.c.F := mkFun_quiet rfl rfl
theorem slices_IndexFunc_int_int_4.s : slices_IndexFunc_int_int_4.c.ok Tryz.prog := sd 19 (.z (.seq (.z (.block (.loop ⟨19, 0, [], [0, 1, 7, 8], (.cons (.v (.sl I)) (.cons (.fn (.func 107) .nil .nil) (cI (cI .nil))))⟩ [(.exit 0, ⟨19, 0, [], [], .nil⟩), (.ret, ⟨19, 0, [], [4], (cI .nil)⟩)]
  (.z (.seq (.cond .std .std) (.seq (.block (.z (.seq (.rq 5 ladder_Of_1.c) (.cond (.z .std) .std)))) (.reg []))))))) (.z .std))) (kc ladder_Of_1.s kn) (kc ladder_Of_1.q kn) Tryz.func112

def slices_ContainsFunc_int_int_4 : tI → Option (Bool) := fun s0 =>
 (slices_IndexFunc_int_int_4 s0).bind fun r7 =>
  some ((decide (r7 ≥ 0)))

def slices_ContainsFunc_int_int_4.c : Callee' := mkC 64 ⟨9, 0, [], [0, 1], (.cons (.v (.sl I)) (.cons (.fn (.func 107) .nil .nil) .nil))⟩ [⟨9, 0, [], [4], (cB .nil)⟩] slices_ContainsFunc_int_int_4
theorem slices_ContainsFunc_int_int_4.q : FunQuiet slices_ContainsFunc_int_int_4.c.F := mkFun_quiet rfl rfl
theorem slices_ContainsFunc_int_int_4.s : slices_ContainsFunc_int_int_4.c.ok Tryz.prog := sd 9 (.z (.seq (.rq 2 slices_IndexFunc_int_int_4.c) .std)) (kc slices_IndexFunc_int_int_4.s kn) (kc slices_IndexFunc_int_int_4.q kn) Tryz.func64

def slices_Clone_int_int : tI → Option tI := fun s0 =>
 if s0.isEmpty = true then
  agree (
   some ((([] : tI)))) (
   if roomOk ((([] : tI)).length + s0.length) 8 then
    some (((([] : tI)) ++ s0))
   else none)
 else
  if roomOk ((([] : tI)).length + s0.length) 8 then
   some (((([] : tI)) ++ s0))
  else none

def slices_Clone_int_int.c : Callee' := mkC 109 ⟨8, 0, [], [0], (.cons (.v (.sl I)) .nil)⟩ [⟨8, 0, [], [2], (.cons (.v (.sl I)) .nil)⟩] slices_Clone_int_int
theorem slices_Clone_int_int.q : FunQuiet slices_Clone_int_int.c.F := mkFun_quiet rfl rfl
theorem slices_Clone_int_int.s : slices_Clone_int_int.c.ok Tryz.prog := sd 8 (.z (.seq (.seq (.reg [.std, .obj .bool]) (.cond (.z .std) .std)) (.seq (.reg [.obj I, .std, .obj I]) .std))) kn kn Tryz.func109

def ladder_list : tI → Option tI := fun l0 =>
 (slices_ContainsFunc_int_int_3 l0).bind fun r4 =>
  if (!r4) = true then
   some ((([] : tI)))
  else
   (slices_Clone_int_int l0).bind fun r7 =>
    if r7.isEmpty = true then none else
    some r7

def ladder_list.c : Callee' := mkC 110 ⟨8, 0, [], [0], (.cons (.v (.sl I)) .nil)⟩ [⟨8, 0, [], [2], (.cons (.v (.nsl I)) .nil)⟩] ladder_list
theorem ladder_list.q : FunQuiet ladder_list.c.F := mkFun_quiet rfl rfl
theorem ladder_list.s : ladder_list.c.ok Tryz.prog := sd 8 (.z (.seq (.seq (.reg [.std, .callq [slices_ContainsFunc_int_int_3.c]]) (.cond (.z .std) .std)) (.seq (.reg [.std, .nn [0] (.callq [slices_Clone_int_int.c])]) .std))) (kc slices_ContainsFunc_int_int_3.s (kc slices_Clone_int_int.s kn)) (kc slices_ContainsFunc_int_int_3.q (kc slices_Clone_int_int.q kn)) Tryz.func110

def slices_Chunk_int_int : (tI × Int) → Option (tI × Int) := fun (s0, n1) =>
 if decide (n1 < 1) = true then none else
 some (((s0, n1)))

def slices_Chunk_int_int.c : Callee' := mkC 111 ⟨9, 0, [], [0, 1], (.cons (.v (.sl I)) (cI .nil))⟩ [⟨9, 0, [], [4], (.cons (.fn (.func 154) .nil (.cons (.v (.ptr (.sl I))) (.cons (.v (.ptr I)) .nil))) .nil)⟩] slices_Chunk_int_int
theorem slices_Chunk_int_int.q : FunQuiet slices_Chunk_int_int.c.F := mkFun_quiet rfl rfl
theorem slices_Chunk_int_int.s : slices_Chunk_int_int.c.ok Tryz.prog := sd 9 (.seq (.reg [.inl (.sl I), .inl I]) (.seq (.z (.cond (.reg []) .std)) (.z .std))) kn kn Tryz.func111

def ladder_Of.l1 : tI → ((tQ) × (tI × tI) × List tI) → Option ((tQ) × (tI × tI) × List tI) := fun t36p ((t2a, t2b, t2c), (r4a, r4b), o2) =>
 (ladder_list t36p).bind fun r40 =>
  if roomOk (o2.length + (([r40] : List tI)).length) 24 then
   some (((t2a, t2b, t2c), (r4a, r4b), o2 ++ (([r40] : List tI))))
  else none

def ladder_Of : tI → Option ((tQ) × Int) := fun m0 =>
 ((
  if decide ((m0.length : Int) > 76) = true then
   if 0 ≤ (76 : Int) ∧ (76 : Int) ≤ (m0.length : Int) then
    (slices_ContainsFunc_int_int_3 (m0.drop 76)).bind fun r13 =>
     some ((((([] : tI), ([] : tI), ([] : List tI)), m0, r13)))
   else none
  else
   some ((((([] : tI), ([] : tI), ([] : List tI)), m0, false)))) : Option ((tQ) × tI × Bool)).bind fun ((t2a, t2b, t2c), m0, t6) =>
  if t6 = true then
   some ((((([] : tI), ([] : tI), ([] : List tI)), 12)))
  else
   (slices_ContainsFunc_int_int_4 m0).bind fun r18 =>
    if r18 = true then
     some ((((([] : tI), ([] : tI), ([] : List tI)), 3)))
    else
     (ladder_wide (m0, 76)).bind fun r21 =>
      if 0 ≤ (4 : Int) ∧ (4 : Int) ≤ (r21.length : Int) then
       (slices_Clone_int_int (r21.take 4)).bind fun r24 =>
        if 0 ≤ (4 : Int) ∧ (4 : Int) ≤ (12 : Int) ∧ (12 : Int) ≤ (r21.length : Int) then
         (ladder_list ((r21.take 12).drop 4)).bind fun r27 =>
          if 0 ≤ (12 : Int) ∧ (12 : Int) ≤ (r21.length : Int) then
           (ladder_list (r21.drop 12)).bind fun r31 =>
            if (r31.isEmpty ^^ true) = true then
             if 0 ≤ (12 : Int) ∧ (12 : Int) ≤ (r21.length : Int) then
              (slices_Chunk_int_int (r21.drop 12, 8)).bind fun (r35, r35_2) =>
               if 1 ≤ (r35_2 : Int) ∧ (r35_2 : Int) + (r35.length : Int) ≤ 9223372036854775807 then
                 (foldO ladder_Of.l1 (chunks (r35_2 : Int).toNat r35.length r35) (((t2a, t2b, t2c), (r24, r27), []))).bind fun ((t2a, t2b, t2c), (r4a, r4b), o2) =>
                 if o2.isEmpty = true then none else
                 some ((((r4a, r4b, o2), 0)))
               else none
             else none
            else
             some ((((r24, r27, ([] : List tI)), 0)))
          else none
        else none
      else none

def ladder_Of.c : Callee' := mkC 62 ⟨45, 0, [], [0], (.cons (.v (.sl I)) .nil)⟩ [⟨46, 0, [], [45, 3], (.cons (.v (.st (.pair (.sl I) (.pair (.nsl I) (.nsl (.nsl I)))))) (cI .nil))⟩] ladder_Of
theorem ladder_Of.q : FunQuiet ladder_Of.c.F := mkFun_quiet rfl rfl
theorem ladder_Of.s : ladder_Of.c.ok Tryz.prog := sdRK 45 [(2, 102)] (.z (.seq (.block (.join [(.norm, ⟨45, 0, [.box (.cons (.v (.sl I)) (.cons (.v (.sl I)) (.cons (.v (.sl (.nsl I))) .nil)))], [0, 2, 6], (.cons (.v (.sl I)) (cr 0 (cB .nil)))⟩)]
  (.rq 6 slices_ContainsFunc_int_int_3.c) (.cond (.z .std) (.seq (.reg [.std, .callq [slices_ContainsFunc_int_int_4.c]]) (.cond (.z .std) .std))))) (.seq (.reg [.std, .callq [ladder_wide.c]]) (.seq (.drw [.std, .inl (.int .u8), .call [slices_Clone_int_int.c], .std, .inl (.int .u8), .call [ladder_list.c]]) (.seq (.seq (.reg [.std, .std, .callq [ladder_list.c], .obj .bool]) (.cond (.seq (.rq 2 slices_Chunk_int_int.c) (.block (.chunk 154 26 3 I ⟨45, 0, [.box (.cons (.v (.sl I)) (.cons (.v (.sl I)) (.cons (.v (.sl (.nsl I))) .nil))), .box (.cons (.v (.sl I)) (.cons (.v (.nsl I)) (cr 2 .nil))), .arr (.nsl I)], [2, 4], (cr 0 (cr 1 .nil))⟩
  (.reg []) (.block (.drw [.std, .std, .std, .callq [ladder_list.c], .inl (.nsl I), .obj (.nsl I)]))))) .std)) (.seq (.reg [.frz [2] (.nn [2] (.std))]) .std)))))) (kc slices_ContainsFunc_int_int_3.s (kc slices_ContainsFunc_int_int_4.s (kc ladder_wide.s (kc slices_Clone_int_int.s (kc ladder_list.s (kc ladder_list.s (kc slices_Chunk_int_int.s (kc ladder_list.s kn)))))))) (kc slices_ContainsFunc_int_int_3.q (kc slices_ContainsFunc_int_int_4.q (kc ladder_wide.q (kc ladder_list.q (kc slices_Chunk_int_int.q (kc ladder_list.q kn)))))) (ls_cons ⟨Tryz.f154, 193, 4, Tryz.func154, by kernel_rfl, rfl, rfl, by decide⟩ (ls_nil)) Tryz.func62

def chains_reader_odd_1 : Int → Option (Bool) := fun n1 =>
 if (n1 != 0) = true then none else
 some false

def chains_reader_odd_1.c : Callee' := mkC 65 ⟨16, 0, [], [0, 1], (.cons (.nilptr) (cI .nil))⟩ [⟨16, 0, [], [4], (cB .nil)⟩] chains_reader_odd_1
theorem chains_reader_odd_1.q : FunQuiet chains_reader_odd_1.c.F := mkFun_quiet rfl rfl
theorem chains_reader_odd_1.s : chains_reader_odd_1.c.ok Tryz.prog := sd 16 (.z (.z .std)) kn kn Tryz.func65

def slices_IndexFunc_int_int_5.l1 : (tI × Int × Int) → Option ((tI × Int × Int) ⊕ (Unit ⊕ Int)) := fun (s0, t7, t8) =>
 if decide (t8 < t7) = true then
  if 0 ≤ t8 ∧ t8 < (s0.length : Int) then
   (chains_reader_odd_1 (s0.getD t8.toNat 0)).bind fun r16 =>
    if r16 = true then
     some (.inr (.inr t8))
    else
     some (.inl ((s0, t7, i64.wrap (t8 + 1))))
  else none
 else
  some (.inr (.inl ()))

def slices_IndexFunc_int_int_5 : tI → Option (Int) := fun s0 =>
 (loopO slices_IndexFunc_int_int_5.l1 ((s0, (s0.length : Int), 0))).bind fun d => match d with
 | .inl _ =>
  some (-1)
 | .inr t4 =>
  some t4

def slices_IndexFunc_int_int_5.c : Callee' := mkC 112 ⟨19, 0, [], [0, 1], (.cons (.v (.sl I)) (.cons (.fn (.func 65) (.cons (.nilptr) .nil) .nil) .nil))⟩ [⟨19, 0, [], [4], (cI .nil)⟩] slices_IndexFunc_int_int_5
theorem slices_IndexFunc_int_int_5.q : FunQuiet slices_IndexFunc_int_int_5.c.F := mkFun_quiet rfl rfl
theorem slices_IndexFunc_int_int_5.s : slices_IndexFunc_int_int_5.c.ok Tryz.prog := sd 19 (.z (.seq (.z (.block (.loop ⟨19, 0, [], [0, 1, 7, 8], (.cons (.v (.sl I)) (.cons (.fn (.func 65) (.cons (.nilptr) .nil) .nil) (cI (cI .nil))))⟩ [(.exit 0, ⟨19, 0, [], [], .nil⟩), (.ret, ⟨19, 0, [], [4], (cI .nil)⟩)]
  (.z (.seq (.cond .std .std) (.seq (.block (.z (.seq (.rq 5 chains_reader_odd_1.c) (.cond (.z .std) .std)))) (.reg []))))))) (.z .std))) (kc chains_reader_odd_1.s kn) (kc chains_reader_odd_1.q kn) Tryz.func112

def slices_ContainsFunc_int_int_5 : tI → Option (Bool) := fun s0 =>
 (slices_IndexFunc_int_int_5 s0).bind fun r7 =>
  some ((decide (r7 ≥ 0)))

def slices_ContainsFunc_int_int_5.c : Callee' := mkC 64 ⟨9, 0, [], [0, 1], (.cons (.v (.sl I)) (.cons (.fn (.func 65) (.cons (.nilptr) .nil) .nil) .nil))⟩ [⟨9, 0, [], [4], (cB .nil)⟩] slices_ContainsFunc_int_int_5
theorem slices_ContainsFunc_int_int_5.q : FunQuiet slices_ContainsFunc_int_int_5.c.F := mkFun_quiet rfl rfl
theorem slices_ContainsFunc_int_int_5.s : slices_ContainsFunc_int_int_5.c.ok Tryz.prog := sd 9 (.z (.seq (.rq 2 slices_IndexFunc_int_int_5.c) .std)) (kc slices_IndexFunc_int_int_5.s kn) (kc slices_IndexFunc_int_int_5.q kn) Tryz.func64

def chains_open_2 : (((Bool × Int) × (tL) × (Int × Int) × tS × tL) × tC) → Option ((((Bool × Int) × (tL) × (Int × Int) × tS × tL) × Int) ⊕ (((Bool × Int) × (tL) × (Int × Int) × tS × (tL) × Int × Int × Int × Int × tI) × Int)) := fun (((o1b, o1c), o2, (o3c, o3d), o4, o5), c1) =>
 (cards_Right c1).bind fun r9 =>
  if (!r9) = false then
   if (c1.1 != 1) = true then
    some (.inl ((((o1b, o1c), o2, (o3c, o3d), o4, o5), 1)))
   else
    (deal_Deal_Crown (((o4, o5, o3c, o3d), o1b, o1c), o2)).bind fun (r18, r18_2) =>
     some (.inr (((((o1b, o1c), o2, (o3c, o3d), o4, o5, r18.1, r18.2.1, r18.2.2, 0, ([] : tI)), r18_2))))
  else
   some (.inl ((((o1b, o1c), o2, (o3c, o3d), o4, o5), 1)))

def chains_open_2.c : Callee' := mkC 63 ⟨26, 0, [.box (cr 1 (cr 2 .nil)), .box (cr 3 (cB (cI .nil))), .map I .str, .box (cr 4 (cr 5 (cI (cI .nil)))), .arr .str, .map I .str], [0, 1], (cr 0 (.cons (.v (yC)) .nil))⟩ [⟨26, 6, [.box (cr 1 (cr 2 .nil)), .box (cr 3 (cB (cI .nil))), .map I .str, .box (cr 4 (cr 5 (cI (cI .nil)))), .arr .str, .map I .str], [4, 5], (.cons (.nilptr) (cI .nil))⟩, ⟨26, 6, [.box (cr 1 (cr 2 .nil)), .box (cr 3 (cB (cI .nil))), .map I .str, .box (cr 4 (cr 5 (cI (cI .nil)))), .arr .str, .map I .str, .box (cr 0 (cI (cI (cI (cI (.cons (.v (.sl I)) .nil))))))], [4, 5], (cr 6 (cI .nil))⟩] chains_open_2
theorem chains_open_2.s : chains_open_2.c.ok Tryz.prog := sd 26 (.z (.seq (.seq (.reg [.std, .callq [cards_Right.c]]) (.cond (.z .std) .std)) (.seq (.reg [.std, .callq [deal_Deal_Crown.c]]) (.z .std)))) (kc cards_Right.s (kc deal_Deal_Crown.s kn)) (kc cards_Right.q (kc deal_Deal_Crown.q kn)) Tryz.func63

def chains_open_3 : (((Bool × Int) × (tL) × (Int × Int) × tS × tL) × tC) → Option ((((Bool × Int) × (tL) × (Int × Int) × tS × tL) × Int) ⊕ (((Bool × Int) × (tL) × (Int × Int) × tS × (tL) × (Int × Int × Int × Int) × tI) × Int)) := fun (((o1b, o1c), o2, (o3c, o3d), o4, o5), c1) =>
 (cards_Right c1).bind fun r9 =>
  if (!r9) = false then
   if (c1.1 != 1) = true then
    some (.inl ((((o1b, o1c), o2, (o3c, o3d), o4, o5), 1)))
   else
    (deal_Deal_Crown (((o4, o5, o3c, o3d), o1b, o1c), o2)).bind fun (r18, r18_2) =>
     some (.inr (((((o1b, o1c), o2, (o3c, o3d), o4, o5, (r18.1, r18.2.1, r18.2.2, 0), []), r18_2))))
  else
   some (.inl ((((o1b, o1c), o2, (o3c, o3d), o4, o5), 1)))

def chains_open_3.c : Callee' := mkC 63 ⟨26, 0, [.box (cr 1 (cr 2 .nil)), .box (cr 3 (cB (cI .nil))), .map I .str, .box (cr 4 (cr 5 (cI (cI .nil)))), .arr .str, .map I .str], [0, 1], (cr 0 (.cons (.v (yC)) .nil))⟩ [⟨26, 6, [.box (cr 1 (cr 2 .nil)), .box (cr 3 (cB (cI .nil))), .map I .str, .box (cr 4 (cr 5 (cI (cI .nil)))), .arr .str, .map I .str], [4, 5], (.cons (.nilptr) (cI .nil))⟩, ⟨26, 6, [.box (cr 1 (cr 2 .nil)), .box (cr 3 (cB (cI .nil))), .map I .str, .box (cr 4 (cr 5 (cI (cI .nil)))), .arr .str, .map I .str, .box (cr 0 (cI (cI (cI (cI (cr 7 .nil)))))), .arr I], [4, 5], (cr 6 (cI .nil))⟩] chains_open_3
theorem chains_open_3.s : chains_open_3.c.ok Tryz.prog := sd 26 (.z (.seq (.seq (.reg [.std, .callq [cards_Right.c]]) (.cond (.z .std) .std)) (.seq (.reg [.std, .callq [deal_Deal_Crown.c]]) (.z .std)))) (kc cards_Right.s (kc deal_Deal_Crown.s kn)) (kc cards_Right.q (kc deal_Deal_Crown.q kn)) Tryz.func63

def chains_reader_list_1x : (((Int × Int × Int × Int) × tI × (Bool × Int) × (tL) × (Int × Int) × tS × tL) × Int) → Option (((Int × Int × Int × Int) × (Bool × Int) × (tL) × (Int × Int) × tS × (tL) × tI) × tI) := fun (((r0b, r0c, r0d, r0e), o2, (o3b, o3c), o4, (o5c, o5d), o6, o7), block1) =>
 if (block1 == 0) = false then
  if (r0e != 0) = true then
   some (((((r0b, r0c, r0d, r0e), (o3b, o3c), o4, (o5c, o5d), o6, o7, o2), ([] : tI))))
  else
   if roomOk (o2.length + (([block1] : tI)).length) 8 then
    (deal_Deal_Read ((((o6, o7, o5c, o5d), o3b, o3c), o4), block1)).bind fun (r35, r35_2) =>
     (ladder_Read r35).bind fun (r40, r40_2) =>
      (slices_ContainsFunc_int_int_1 r40).bind fun r44 =>
       (chains_reader_odd (((((o6, o7, o5c, o5d), o3b, o3c), o4), r0b, r0c, r0d, r0e, o2 ++ (([block1] : tI))), block1)).bind fun r48 =>
        if r48 = false then
         if (r35_2 != 0) = false then
          if (r40_2 != 0) = false then
           if (!r44) = false then
            (slices_ContainsFunc_int_int_2 (r40, (((o6, o7, o5c, o5d), o3b, o3c), o4), r0b, r0c, r0d, r0e, o2 ++ (([block1] : tI)))).bind fun r64 =>
             if r64 = true then
              some (((((r0b, r0c, r0d, 15), (o3b, o3c), o4, (o5c, o5d), o6, o7, o2 ++ (([block1] : tI))), ([] : tI))))
             else
              some (((((r0b, r0c, r0d, r0e), (o3b, o3c), o4, (o5c, o5d), o6, o7, o2 ++ (([block1] : tI))), r40)))
           else
            some (((((r0b, r0c, r0d, 15), (o3b, o3c), o4, (o5c, o5d), o6, o7, o2 ++ (([block1] : tI))), ([] : tI))))
          else
           some (((((r0b, r0c, r0d, 15), (o3b, o3c), o4, (o5c, o5d), o6, o7, o2 ++ (([block1] : tI))), ([] : tI))))
         else
          some (((((r0b, r0c, r0d, 15), (o3b, o3c), o4, (o5c, o5d), o6, o7, o2 ++ (([block1] : tI))), ([] : tI))))
        else
         some (((((r0b, r0c, r0d, 15), (o3b, o3c), o4, (o5c, o5d), o6, o7, o2 ++ (([block1] : tI))), ([] : tI))))
   else none
 else
  some (((((r0b, r0c, r0d, r0e), (o3b, o3c), o4, (o5c, o5d), o6, o7, o2), ([] : tI))))

def chains_reader_list_1x.c : Callee' := mkC 153 ⟨70, 0, [.box (cr 1 (cI (cI (cI (cI (cr 2 .nil)))))), .box (cr 3 (cr 4 .nil)), .arr I, .box (cr 5 (cB (cI .nil))), .map I .str, .box (cr 6 (cr 7 (cI (cI .nil)))), .arr .str, .map I .str], [0, 1], (cr 0 (cI .nil))⟩ [⟨70, 8, [.box (cr 1 (cI (cI (cI (cI (cr 8 .nil)))))), .box (cr 3 (cr 4 .nil)), .dead, .box (cr 5 (cB (cI .nil))), .map I .str, .box (cr 6 (cr 7 (cI (cI .nil)))), .arr .str, .map I .str, .arr I], [4], (.cons (.v (.sl I)) .nil)⟩] chains_reader_list_1x
theorem chains_reader_list_1x.s : chains_reader_list_1x.c.ok Tryz.prog := sd 70 (.z (.seq (.z (.cond (.z .std) .std)) (.seq (.reg [.std, .std, .std, .std, .std, .std, .inl I, .obj I]) (.seq (.rq 5 deal_Deal_Read.c) (.seq (.reg [.std, .callq [ladder_Read.c]]) (.seq (.reg [.std, .callq [slices_ContainsFunc_int_int_1.c]]) (.seq (.seq (.reg [.std, .std, .callq [chains_reader_odd.c], .std, .std, .std, .std, .std, .std, .std, .std, .std, .std, .std, .std, .std, .std, .std, .callq [slices_ContainsFunc_int_int_2.c]]) (.cond (.z (.z .std)) .std)) (.z .std)))))))) (kc deal_Deal_Read.s (kc ladder_Read.s (kc slices_ContainsFunc_int_int_1.s (kc chains_reader_odd.s (kc slices_ContainsFunc_int_int_2.s kn))))) (kc deal_Deal_Read.q (kc ladder_Read.q (kc slices_ContainsFunc_int_int_1.q (kc chains_reader_odd.q (kc slices_ContainsFunc_int_int_2.q kn))))) Tryz.func153

def chains_reader_rungs_1.l1 : (((Int × Int × Int × Int) × (Bool × Int) × (tL) × (Int × Int) × tS × (tL) × tC × (tQ) × (tI × tI) × tI × List tI) × tI × Int × Int) → Option ((((Int × Int × Int × Int) × (Bool × Int) × (tL) × (Int × Int) × tS × (tL) × tC × (tQ) × (tI × tI) × tI × List tI) × tI × Int × Int) ⊕ ((Int × Int × Int × Int) × (Bool × Int) × (tL) × (Int × Int) × tS × (tL) × tC × (tQ) × (tI × tI) × tI × List tI)) := fun (((r0b, r0c, r0d, r0e), (o3b, o3c), o4, (o5c, o5d), o6, o7, (c3a, c3b, c3c, c3d, c3e, c3f, c3g, c3h, c3i), (t4a, t4b, t4c), (out5a, out5b), o11, o12), t18, t19, t20) =>
 if decide (t20 < t19) = true then
  if 0 ≤ t20 ∧ t20 < (t18.length : Int) then
   (chains_reader_list_1x (((r0b, r0c, r0d, r0e), o11, (o3b, o3c), o4, (o5c, o5d), o6, o7), t18.getD t20.toNat 0)).bind fun (((r28, r28_2, r28_3, r28_4), (r28_5, r28_6), r28_7, (r28_8, r28_9), r28_10, r28_11, r28_12), r28_13) =>
    if roomOk (o12.length + (([r28_13] : List tI)).length) 24 then
     some (.inl ((((r28, r28_2, r28_3, r28_4), (r28_5, r28_6), r28_7, (r28_8, r28_9), r28_10, r28_11, (c3a, c3b, c3c, c3d, c3e, c3f, c3g, c3h, c3i), (t4a, t4b, t4c), (out5a, out5b), r28_12, o12 ++ (([r28_13] : List tI))), t18, t19, i64.wrap (t20 + 1))))
    else none
  else none
 else
  some (.inr ((((r0b, r0c, r0d, r0e), (o3b, o3c), o4, (o5c, o5d), o6, o7, (c3a, c3b, c3c, c3d, c3e, c3f, c3g, c3h, c3i), (t4a, t4b, t4c), (out5a, out5b), o11, o12))))

def chains_reader_rungs_1 : (((Int × Int × Int × Int) × tI × (Bool × Int) × (tL) × (Int × Int) × tS × tL) × tC) → Option (((Int × Int × Int × Int) × (Bool × Int) × (tL) × (Int × Int) × tS × (tL) × tI) × tQ) := fun (((r0b, r0c, r0d, r0e), o2, (o3b, o3c), o4, (o5c, o5d), o6, o7), c1) =>
 (chains_reader_list_1x (((r0b, r0c, r0d, r0e), o2, (o3b, o3c), o4, (o5c, o5d), o6, o7), c1.2.2.2.2.2.1)).bind fun (((r13, r13_2, r13_3, r13_4), (r13_5, r13_6), r13_7, (r13_8, r13_9), r13_10, r13_11, r13_12), r13_13) =>
  (chains_reader_list_1x (((r13, r13_2, r13_3, r13_4), r13_12, (r13_5, r13_6), r13_7, (r13_8, r13_9), r13_10, r13_11), c1.2.2.2.2.2.2.1)).bind fun (((r18, r18_2, r18_3, r18_4), (r18_5, r18_6), r18_7, (r18_8, r18_9), r18_10, r18_11, r18_12), r18_13) =>
   (loopO chains_reader_rungs_1.l1 ((((r18, r18_2, r18_3, r18_4), (r18_5, r18_6), r18_7, (r18_8, r18_9), r18_10, r18_11, c1, (([] : tI), ([] : tI), ([] : List tI)), (c1.2.2.2.2.1, r13_13), r18_12, []), r18_13, (r18_13.length : Int), 0))).bind fun ((r0b, r0c, r0d, r0e), (o3b, o3c), o4, (o5c, o5d), o6, o7, (c3a, c3b, c3c, c3d, c3e, c3f, c3g, c3h, c3i), (t4a, t4b, t4c), (out5a, out5b), o11, o12) =>
    (slices_ContainsFunc_int_int_2 (c3e, (((o6, o7, o5c, o5d), o3b, o3c), o4), r0b, r0c, r0d, r0e, o11)).bind fun r37 =>
     if r37 = true then
      some (((((r0b, r0c, r0d, 15), (o3b, o3c), o4, (o5c, o5d), o6, o7, o11), out5a, out5b, o12)))
     else
      some (((((r0b, r0c, r0d, r0e), (o3b, o3c), o4, (o5c, o5d), o6, o7, o11), out5a, out5b, o12)))

def chains_reader_rungs_1.c : Callee' := mkC 105 ⟨42, 0, [.box (cr 1 (cI (cI (cI (cI (cr 2 .nil)))))), .box (cr 3 (cr 4 .nil)), .arr I, .box (cr 5 (cB (cI .nil))), .map I .str, .box (cr 6 (cr 7 (cI (cI .nil)))), .arr .str, .map I .str], [0, 1], (cr 0 (.cons (.v (yC)) .nil))⟩ [⟨43, 8, [.box (cr 1 (cI (cI (cI (cI (cr 8 .nil)))))), .box (cr 3 (cr 4 .nil)), .dead, .box (cr 5 (cB (cI .nil))), .map I .str, .box (cr 6 (cr 7 (cI (cI .nil)))), .arr .str, .map I .str, .arr I], [42], (.cons (.v (.st (.pair (.sl I) (.pair (.sl I) (.sl (.sl I)))))) .nil)⟩] chains_reader_rungs_1
theorem chains_reader_rungs_1.s : chains_reader_rungs_1.c.ok Tryz.prog := sdR 42 [(4, 102)] (.z (.seq (.drw [.std, .std, .std, .std, .std, .call [chains_reader_list_1x.c]]) (.seq (.seq (.reg [.std, .std, .std, .call [chains_reader_list_1x.c]]) (.block (.loop ⟨42, 8, [.box (cr 1 (cI (cI (cI (cI (cr 11 .nil)))))), .box (cr 3 (cr 4 .nil)), .dead, .box (cr 5 (cB (cI .nil))), .map I .str, .box (cr 6 (cr 7 (cI (cI .nil)))), .arr .str, .map I .str, .box (cI (cI (cI (cI (.cons (.v (.sl I)) (cI (cI (.cons (.v (.sl (.st (.pair I (.pair I I))))) (cI .nil))))))))), .box (.cons (.v (.sl I)) (.cons (.v (.sl I)) (.cons (.v (.sl (.sl I))) .nil))), .box (.cons (.v (.sl I)) (.cons (.v (.sl I)) (cr 12 .nil))), .arr I, .arr (.sl I)], [0, 3, 4, 5, 18, 19, 20], (cr 0 (cr 8 (cr 9 (cr 10 (.cons (.v (.sl I)) (cI (cI .nil)))))))⟩ [(.exit 0, ⟨42, 8, [.box (cr 1 (cI (cI (cI (cI (cr 11 .nil)))))), .box (cr 3 (cr 4 .nil)), .dead, .box (cr 5 (cB (cI .nil))), .map I .str, .box (cr 6 (cr 7 (cI (cI .nil)))), .arr .str, .map I .str, .box (cI (cI (cI (cI (.cons (.v (.sl I)) (cI (cI (.cons (.v (.sl (.st (.pair I (.pair I I))))) (cI .nil))))))))), .box (.cons (.v (.sl I)) (.cons (.v (.sl I)) (.cons (.v (.sl (.sl I))) .nil))), .box (.cons (.v (.sl I)) (.cons (.v (.sl I)) (cr 12 .nil))), .arr I, .arr (.sl I)], [0, 3, 4, 5], (cr 0 (cr 8 (cr 9 (cr 10 .nil))))⟩)]
  (.z (.seq (.cond .std .std) (.seq (.block (.z (.drw [.std, .std, .std, .std, .call [chains_reader_list_1x.c], .inl (.sl I), .obj (.sl I)]))) (.reg []))))))) (.seq (.seq (.rq 4 slices_ContainsFunc_int_int_2.c) (.cond (.reg []) .std)) (.z .std))))) (kc chains_reader_list_1x.s (kc chains_reader_list_1x.s (kc chains_reader_list_1x.s (kc slices_ContainsFunc_int_int_2.s kn)))) (kc slices_ContainsFunc_int_int_2.q kn) Tryz.func105

def chains_load_1 : (((Bool × Int) × (tL) × (Int × Int) × tS × tL) × tC) → Option (((Bool × Int) × (tL) × (Int × Int) × tS × tL) × tI × tI × Int) := fun (((o1b, o1c), o2, (o3c, o3d), o4, o5), c1) =>
 (chains_open_3 (((o1b, o1c), o2, (o3c, o3d), o4, o5), c1)).bind fun d => match d with
 | .inl (((r13, r13_2), r13_3, (r13_4, r13_5), r13_6, r13_7), r13_8) =>
  if (r13_8 != 0) = true then
   some (((((r13, r13_2), r13_3, (r13_4, r13_5), r13_6, r13_7), ([] : tI), ([] : tI), r13_8)))
  else none
 | .inr ((((r13b, r13_2b), r13_3b, (r13_4b, r13_5b), r13_6b, r13_7b, (r13_8b, r13_9b, r13_10b, r13_11b), r13_12b), r13_13b)) =>
  if (r13_13b != 0) = true then
   some (((((r13b, r13_2b), r13_3b, (r13_4b, r13_5b), r13_6b, r13_7b), ([] : tI), ([] : tI), r13_13b)))
  else
   (chains_reader_rungs_1 (((r13_8b, r13_9b, r13_10b, r13_11b), r13_12b, (r13b, r13_2b), r13_3b, (r13_4b, r13_5b), r13_6b, r13_7b), c1)).bind fun (((r21, r21_2, r21_3, r21_4), (r21_5, r21_6), r21_7, (r21_8, r21_9), r21_10, r21_11, r21_12), r21_13) =>
    (ladder_Map r21_13).bind fun r22 =>
     if (r21_4 != 0) = true then
      some (((((r21_5, r21_6), r21_7, (r21_8, r21_9), r21_10, r21_11), ([] : tI), ([] : tI), r21_4)))
     else
      some (((((r21_5, r21_6), r21_7, (r21_8, r21_9), r21_10, r21_11), r22, r21_12, 0)))

def chains_load_1.c : Callee' := mkC 61 ⟨37, 0, [.box (cr 1 (cr 2 .nil)), .box (cr 3 (cB (cI .nil))), .map I .str, .box (cr 4 (cr 5 (cI (cI .nil)))), .arr .str, .map I .str], [0, 1], (cr 0 (.cons (.v (yC)) .nil))⟩ [⟨37, 6, [.box (cr 1 (cr 2 .nil)), .box (cr 3 (cB (cI .nil))), .map I .str, .box (cr 4 (cr 5 (cI (cI .nil)))), .arr .str, .map I .str], [4, 5, 6], (.cons (.v (.sl I)) (.cons (.v (.sl I)) (cI .nil)))⟩] chains_load_1
theorem chains_load_1.s : chains_load_1.c.ok Tryz.prog := sd 37 (.z (.seq (.reg [.std, .std, .call [chains_open_3.c]]) (.seq (.z (.cond (.z .std) .std)) (.seq (.reg [.std, .std, .call [chains_reader_rungs_1.c], .callq [ladder_Map.c]]) (.seq (.z (.cond (.seq (.drw []) .std) .std)) (.seq (.drw []) .std)))))) (kc chains_open_3.s (kc chains_reader_rungs_1.s (kc ladder_Map.s kn))) (kc ladder_Map.q kn) Tryz.func61

def stock_open : ((Bool × Int) × (tL) × (Int × Int) × tS × tL) → Option ((((Bool × Int) × (tL) × (Int × Int) × tS × tL) × Int) ⊕ (((Bool × Int) × (tL) × (Int × Int) × tS × (tL) × Int × Int × Int × tB) × Int)) := fun ((o1b, o1c), o2, (o3c, o3d), o4, o5) =>
 (deal_Deal_Crown (((o4, o5, o3c, o3d), o1b, o1c), o2)).bind fun (r9, r9_2) =>
  if (r9_2 != 0) = true then
   some (.inl ((((o1b, o1c), o2, (o3c, o3d), o4, o5), r9_2)))
  else
   (deal_Deal_Read ((((o4, o5, o3c, o3d), o1b, o1c), o2), 42)).bind fun (r17, r17_2) =>
    if (r17_2 != 0) = true then
     some (.inl ((((o1b, o1c), o2, (o3c, o3d), o4, o5), r17_2)))
    else
     some (.inr (((((o1b, o1c), o2, (o3c, o3d), o4, o5, r9.1, r9.2.1, r9.2.2, r17), 0))))

def stock_open.c : Callee' := mkC 58 ⟨28, 0, [.box (cr 1 (cr 2 .nil)), .box (cr 3 (cB (cI .nil))), .map I .str, .box (cr 4 (cr 5 (cI (cI .nil)))), .arr .str, .map I .str], [0], (cr 0 .nil)⟩ [⟨28, 6, [.box (cr 1 (cr 2 .nil)), .box (cr 3 (cB (cI .nil))), .map I .str, .box (cr 4 (cr 5 (cI (cI .nil)))), .arr .str, .map I .str], [2, 3], (.cons (.nilptr) (cI .nil))⟩, ⟨28, 6, [.box (cr 1 (cr 2 .nil)), .box (cr 3 (cB (cI .nil))), .map I .str, .box (cr 4 (cr 5 (cI (cI .nil)))), .arr .str, .map I .str, .box (cr 0 (cI (cI (cI (cS .nil)))))], [2, 3], (cr 6 (cI .nil))⟩] stock_open
theorem stock_open.s : stock_open.c.ok Tryz.prog := sd 28 (.z (.seq (.reg [.std, .callq [deal_Deal_Crown.c]]) (.seq (.z (.cond (.z .std) .std)) (.seq (.reg [.std, .callq [deal_Deal_Read.c]]) (.seq (.z (.cond (.z .std) .std)) (.z .std)))))) (kc deal_Deal_Crown.s (kc deal_Deal_Read.s kn)) (kc deal_Deal_Crown.q (kc deal_Deal_Read.q kn)) Tryz.func58

def marks_there : (tB × Int) → Option (Bool) := fun (m0, i1) =>
 if decide (i1 ≥ 0) = true then
  some ((decide (i1 < i64.wrap (8 * (m0.length : Int)))))
 else
  some false

def marks_there.c : Callee' := mkC 119 ⟨14, 0, [], [0, 1], (cS (cI .nil))⟩ [⟨14, 0, [], [4], (cB .nil)⟩] marks_there
theorem marks_there.q : FunQuiet marks_there.c.F := mkFun_quiet rfl rfl
theorem marks_there.s : marks_there.c.ok Tryz.prog := sd 14 (.z (.z .std)) kn kn Tryz.func119

def marks_Is : (tB × Int) → Option (Bool) := fun (m0, i1) =>
 (marks_there (m0, i1)).bind fun r7 =>
  if (!r7) = false then
   if 0 ≤ i64.wrap (Int.tdiv i1 8) ∧ i64.wrap (Int.tdiv i1 8) < (m0.length : Int) then
    if 0 ≤ Int.tmod i1 8 then
     some (((bitsOp .and .u8 (Int.fdiv ((m0.getD ((i64.wrap (Int.tdiv i1 8)).toNat) 0).toNat : Int) (2 ^ (min (Int.tmod i1 8).toNat 8))) 1 == 1)))
    else none
   else none
  else
   some true

def marks_Is.c : Callee' := mkC 73 ⟨20, 0, [], [0, 1], (cS (cI .nil))⟩ [⟨20, 0, [], [4], (cB .nil)⟩] marks_Is
theorem marks_Is.q : FunQuiet marks_Is.c.F := mkFun_quiet rfl rfl
theorem marks_Is.s : marks_Is.c.ok Tryz.prog := sd 20 (.z (.seq (.rq 2 marks_there.c) .std)) (kc marks_there.s kn) (kc marks_there.q kn) Tryz.func73

def marks_Set : (tB × Int × Bool) → Option tB := fun (m0, i1, yes2) =>
 (marks_there (m0, i1)).bind fun r10 =>
  if (!r10) = false then
   (marks_Is (m0, i1)).bind fun r15 =>
    if (r15 == yes2) = true then
     some m0
    else
     if 0 ≤ i64.wrap (Int.tdiv i1 8) ∧ i64.wrap (Int.tdiv i1 8) < ((m0.map fun b => (b.toNat : Int)).length : Int) then
      if 0 ≤ Int.tmod i1 8 then
       if 0 ≤ i64.wrap (Int.tdiv i1 8) ∧ i64.wrap (Int.tdiv i1 8) < ((m0.map fun b => (b.toNat : Int)).length : Int) then
        some ((((m0.map fun b => (b.toNat : Int)).set ((i64.wrap (Int.tdiv i1 8)).toNat) (bitsOp .xor .u8 ((m0.map fun b => (b.toNat : Int)).getD ((i64.wrap (Int.tdiv i1 8)).toNat) 0) (u8.wrap (1 * 2 ^ (min (Int.tmod i1 8).toNat 8))))).map fun (n : Int) => UInt8.ofNat n.toNat))
       else none
      else none
     else none
  else
   some m0

def marks_Set.c : Callee' := mkC 96 ⟨34, 0, [], [0, 1, 2], (cS (cI (cB .nil)))⟩ [⟨34, 0, [], [6], (cS .nil)⟩] marks_Set
theorem marks_Set.q : FunQuiet marks_Set.c.F := mkFun_quiet rfl rfl
theorem marks_Set.s : marks_Set.c.ok Tryz.prog := sd 34 (.z (.seq (.seq (.reg [.std, .std, .callq [marks_there.c], .std, .std, .std, .std, .callq [marks_Is.c]]) (.cond (.z .std) .std)) (.seq (.reg [.std, .obj (.int .u8)]) (.seq (.drw []) (.z .std))))) (kc marks_there.s (kc marks_Is.s kn)) (kc marks_there.q (kc marks_Is.q kn)) Tryz.func96

def stock_low.l1 : (tB × Int) → Option ((tB × Int) ⊕ tB) := fun (m0, t4) =>
 if decide (t4 < 51) = true then
  (marks_Set (m0, t4, true)).bind fun r9 =>
   some (.inl ((r9, i64.wrap (t4 + 1))))
 else
  some (.inr m0)

def stock_low : tB → Option tB := fun m0 =>
 (loopO stock_low.l1 ((m0, 0))).bind fun m0 =>
  some m0

def stock_low.c : Callee' := mkC 60 ⟨12, 0, [], [0], (cS .nil)⟩ [⟨12, 0, [], [2], (cS .nil)⟩] stock_low
theorem stock_low.q : FunQuiet stock_low.c.F := mkFun_quiet rfl rfl
theorem stock_low.s : stock_low.c.ok Tryz.prog := sd 12 (.z (.seq (.z (.block (.loop ⟨12, 0, [], [0, 4], (cS (cI .nil))⟩ [(.exit 0, ⟨12, 0, [], [0], (cS .nil)⟩)]
  (.z (.seq (.cond .std .std) (.seq (.block (.z (.rq 2 marks_Set.c))) (.reg []))))))) (.z .std))) (kc marks_Set.s kn) (kc marks_Set.q kn) Tryz.func60

def bits_OnesCount8 : Int → Option (Int) := fun x0 =>
 if 0 ≤ x0 ∧ x0 < ((([0, 1, 1, 2, 1, 2, 2, 3, 1, 2, 2, 3, 2, 3, 3, 4, 1, 2, 2, 3, 2, 3, 3, 4, 2, 3, 3, 4, 3, 4, 4, 5, 1, 2, 2, 3, 2, 3, 3, 4, 2, 3, 3, 4, 3, 4, 4, 5, 2, 3, 3, 4, 3, 4, 4, 5, 3, 4, 4, 5, 4, 5, 5, 6, 1, 2, 2, 3, 2, 3, 3, 4, 2, 3, 3, 4, 3, 4, 4, 5, 2, 3, 3, 4, 3, 4, 4, 5, 3, 4, 4, 5, 4, 5, 5, 6, 2, 3, 3, 4, 3, 4, 4, 5, 3, 4, 4, 5, 4, 5, 5, 6, 3, 4, 4, 5, 4, 5, 5, 6, 4, 5, 5, 6, 5, 6, 6, 7, 1, 2, 2, 3, 2, 3, 3, 4, 2, 3, 3, 4, 3, 4, 4, 5, 2, 3, 3, 4, 3, 4, 4, 5, 3, 4, 4, 5, 4, 5, 5, 6, 2, 3, 3, 4, 3, 4, 4, 5, 3, 4, 4, 5, 4, 5, 5, 6, 3, 4, 4, 5, 4, 5, 5, 6, 4, 5, 5, 6, 5, 6, 6, 7, 2, 3, 3, 4, 3, 4, 4, 5, 3, 4, 4, 5, 4, 5, 5, 6, 3, 4, 4, 5, 4, 5, 5, 6, 4, 5, 5, 6, 5, 6, 6, 7, 3, 4, 4, 5, 4, 5, 5, 6, 4, 5, 5, 6, 5, 6, 6, 7, 4, 5, 5, 6, 5, 6, 6, 7, 5, 6, 6, 7, 6, 7, 7, 8] : tB)).length : Int) then
  some ((i64.wrap ((((([0, 1, 1, 2, 1, 2, 2, 3, 1, 2, 2, 3, 2, 3, 3, 4, 1, 2, 2, 3, 2, 3, 3, 4, 2, 3, 3, 4, 3, 4, 4, 5, 1, 2, 2, 3, 2, 3, 3, 4, 2, 3, 3, 4, 3, 4, 4, 5, 2, 3, 3, 4, 3, 4, 4, 5, 3, 4, 4, 5, 4, 5, 5, 6, 1, 2, 2, 3, 2, 3, 3, 4, 2, 3, 3, 4, 3, 4, 4, 5, 2, 3, 3, 4, 3, 4, 4, 5, 3, 4, 4, 5, 4, 5, 5, 6, 2, 3, 3, 4, 3, 4, 4, 5, 3, 4, 4, 5, 4, 5, 5, 6, 3, 4, 4, 5, 4, 5, 5, 6, 4, 5, 5, 6, 5, 6, 6, 7, 1, 2, 2, 3, 2, 3, 3, 4, 2, 3, 3, 4, 3, 4, 4, 5, 2, 3, 3, 4, 3, 4, 4, 5, 3, 4, 4, 5, 4, 5, 5, 6, 2, 3, 3, 4, 3, 4, 4, 5, 3, 4, 4, 5, 4, 5, 5, 6, 3, 4, 4, 5, 4, 5, 5, 6, 4, 5, 5, 6, 5, 6, 6, 7, 2, 3, 3, 4, 3, 4, 4, 5, 3, 4, 4, 5, 4, 5, 5, 6, 3, 4, 4, 5, 4, 5, 5, 6, 4, 5, 5, 6, 5, 6, 6, 7, 3, 4, 4, 5, 4, 5, 5, 6, 4, 5, 5, 6, 5, 6, 6, 7, 4, 5, 5, 6, 5, 6, 6, 7, 5, 6, 6, 7, 6, 7, 7, 8] : tB)).getD x0.toNat 0).toNat : Int))))
 else none

def bits_OnesCount8.c : Callee' := mkC 103 ⟨6, 0, [], [0], (.cons (.v (.int .u8)) .nil)⟩ [⟨6, 0, [], [2], (cI .nil)⟩] bits_OnesCount8
theorem bits_OnesCount8.q : FunQuiet bits_OnesCount8.c.F := mkFun_quiet rfl rfl
theorem bits_OnesCount8.s : bits_OnesCount8.c.ok Tryz.prog := sd 6 (.z (.z .std)) kn kn Tryz.func103

def marks_Count.l1 : (tB × Int × Int × Int × tI × Int × Int) → Option ((tB × Int × Int × Int × tI × Int × Int) ⊕ (tB × Int × Int × Int)) := fun (m0, n1, whole5, c6, t27, t28, t29) =>
 if decide (t29 < t28) = true then
  if 0 ≤ t29 ∧ t29 < (t27.length : Int) then
   (bits_OnesCount8 (t27.getD t29.toNat 0)).bind fun r35 =>
    some (.inl ((m0, n1, whole5, i64.wrap (c6 + r35), t27, t28, i64.wrap (t29 + 1))))
  else none
 else
  some (.inr (((m0, n1, whole5, c6))))

def marks_Count : (tB × Int) → Option (Int) := fun (m0, n1) =>
 if 0 ≤ (if (m0.length : Int) < i64.wrap (Int.tdiv (if 100000 < (if 0 > n1 then 0 else n1) then 100000 else (if 0 > n1 then 0 else n1)) 8) then (m0.length : Int) else i64.wrap (Int.tdiv (if 100000 < (if 0 > n1 then 0 else n1) then 100000 else (if 0 > n1 then 0 else n1)) 8)) ∧ (if (m0.length : Int) < i64.wrap (Int.tdiv (if 100000 < (if 0 > n1 then 0 else n1) then 100000 else (if 0 > n1 then 0 else n1)) 8) then (m0.length : Int) else i64.wrap (Int.tdiv (if 100000 < (if 0 > n1 then 0 else n1) then 100000 else (if 0 > n1 then 0 else n1)) 8)) ≤ (m0.length : Int) then
  (loopO marks_Count.l1 ((m0, (if 100000 < (if 0 > n1 then 0 else n1) then 100000 else (if 0 > n1 then 0 else n1)), (if (m0.length : Int) < i64.wrap (Int.tdiv (if 100000 < (if 0 > n1 then 0 else n1) then 100000 else (if 0 > n1 then 0 else n1)) 8) then (m0.length : Int) else i64.wrap (Int.tdiv (if 100000 < (if 0 > n1 then 0 else n1) then 100000 else (if 0 > n1 then 0 else n1)) 8)), (if 0 > i64.wrap ((if 100000 < (if 0 > n1 then 0 else n1) then 100000 else (if 0 > n1 then 0 else n1)) - (i64.wrap (8 * (m0.length : Int)))) then 0 else i64.wrap ((if 100000 < (if 0 > n1 then 0 else n1) then 100000 else (if 0 > n1 then 0 else n1)) - (i64.wrap (8 * (m0.length : Int))))), (m0.take ((if (m0.length : Int) < i64.wrap (Int.tdiv (if 100000 < (if 0 > n1 then 0 else n1) then 100000 else (if 0 > n1 then 0 else n1)) 8) then (m0.length : Int) else i64.wrap (Int.tdiv (if 100000 < (if 0 > n1 then 0 else n1) then 100000 else (if 0 > n1 then 0 else n1)) 8))).toNat).map fun b => (b.toNat : Int), (((m0.take ((if (m0.length : Int) < i64.wrap (Int.tdiv (if 100000 < (if 0 > n1 then 0 else n1) then 100000 else (if 0 > n1 then 0 else n1)) 8) then (m0.length : Int) else i64.wrap (Int.tdiv (if 100000 < (if 0 > n1 then 0 else n1) then 100000 else (if 0 > n1 then 0 else n1)) 8))).toNat).map fun b => (b.toNat : Int)).length : Int), 0))).bind fun (m0, n1, whole5, c6) =>
   ((
    if decide (whole5 < (m0.length : Int)) = true then
     some (((m0, whole5, c6, i64.wrap (n1 - (i64.wrap (8 * whole5))), decide (i64.wrap (n1 - (i64.wrap (8 * whole5))) > 0))))
    else
     some (((m0, whole5, c6, i64.wrap (n1 - (i64.wrap (8 * whole5))), false)))) : Option (tB × Int × Int × Int × Bool)).bind fun (m0, whole5, c6, rest9, t49) =>
    if t49 = true then
     if 0 ≤ whole5 ∧ whole5 < (m0.length : Int) then
      if 0 ≤ rest9 then
       (bits_OnesCount8 (bitsOp .and .u8 ((m0.getD whole5.toNat 0).toNat : Int) (u8.wrap ((u8.wrap (1 * 2 ^ (min rest9.toNat 8))) - 1)))).bind fun r58 =>
        some ((i64.wrap (c6 + r58)))
      else none
     else none
    else
     some c6
 else none

def marks_Count.c : Callee' := mkC 59 ⟨61, 0, [], [0, 1], (cS (cI .nil))⟩ [⟨61, 0, [], [4], (cI .nil)⟩] marks_Count
theorem marks_Count.q : FunQuiet marks_Count.c.F := mkFun_quiet rfl rfl
theorem marks_Count.s : marks_Count.c.ok Tryz.prog := sd 61 (.z (.z (.z (.z (.seq (.seq (.reg [.std, .std, .std, .inl (.int .u8)]) (.block (.loop ⟨61, 0, [], [0, 1, 5, 6, 27, 28, 29], (cS (cI (cI (cI (.cons (.v (.sl (.int .u8))) (cI (cI .nil)))))))⟩ [(.exit 0, ⟨61, 0, [], [0, 1, 5, 6], (cS (cI (cI (cI .nil))))⟩)]
  (.z (.seq (.cond .std .std) (.seq (.block (.z (.rq 2 bits_OnesCount8.c))) (.reg []))))))) (.seq (.z (.join [(.norm, ⟨61, 0, [], [0, 5, 6, 9, 49], (cS (cI (cI (cI (cB .nil)))))⟩)]
  (.reg []) (.cond (.drw [.std, .std, .std, .std, .std, .std, .std, .std, .callq [bits_OnesCount8.c]]) .std))) (.z .std))))))) (kc bits_OnesCount8.s (kc bits_OnesCount8.s kn)) (kc bits_OnesCount8.q (kc bits_OnesCount8.q kn)) Tryz.func59

def stock_Free : ((Bool × Int) × (tL) × (Int × Int) × tS × tL) → Option (((Bool × Int) × (tL) × (Int × Int) × tS × tL) × Int × Int) := fun ((o1b, o1c), o2, (o3c, o3d), o4, o5) =>
 (stock_open ((o1b, o1c), o2, (o3c, o3d), o4, o5)).bind fun d => match d with
 | .inl (((r8, r8_2), r8_3, (r8_4, r8_5), r8_6, r8_7), r8_8) =>
  if (r8_8 != 0) = true then
   some (((((r8, r8_2), r8_3, (r8_4, r8_5), r8_6, r8_7), 0, r8_8)))
  else none
 | .inr ((((r8b, r8_2b), r8_3b, (r8_4b, r8_5b), r8_6b, r8_7b, r8_8b, r8_9b, r8_10b, r8_11b), r8_12b)) =>
  if (r8_12b != 0) = true then
   some (((((r8b, r8_2b), r8_3b, (r8_4b, r8_5b), r8_6b, r8_7b), 0, r8_12b)))
  else
   (stock_low r8_11b).bind fun r23 =>
    (marks_Count (r23, r8_9b)).bind fun r29 =>
     some (((((r8b, r8_2b), r8_3b, (r8_4b, r8_5b), r8_6b, r8_7b), i64.wrap (r8_9b - r29), 0)))

def stock_Free.c : Callee' := mkC 23 ⟨31, 0, [.box (cr 1 (cr 2 .nil)), .box (cr 3 (cB (cI .nil))), .map I .str, .box (cr 4 (cr 5 (cI (cI .nil)))), .arr .str, .map I .str], [0], (cr 0 .nil)⟩ [⟨31, 6, [.box (cr 1 (cr 2 .nil)), .box (cr 3 (cB (cI .nil))), .map I .str, .box (cr 4 (cr 5 (cI (cI .nil)))), .arr .str, .map I .str], [2, 3], (cI (cI .nil))⟩] stock_Free
theorem stock_Free.s : stock_Free.c.ok Tryz.prog := sd 31 (.z (.seq (.reg [.std, .call [stock_open.c]]) (.seq (.z (.cond (.z .std) .std)) (.seq (.drw [.std, .std, .std, .std, .std, .std, .std, .std, .std, .callq [stock_low.c], .std, .std, .std, .std, .std, .callq [marks_Count.c]]) .std)))) (kc stock_open.s (kc stock_low.s (kc marks_Count.s kn))) (kc stock_low.q (kc marks_Count.q kn)) Tryz.func23

def ladder_Blocks.l1 : (Int × List (tI) × Int × Int) → Option ((Int × List (tI) × Int × Int) ⊕ Int) := fun (n3, t17, t18, t19) =>
 if decide (t19 < t18) = true then
  if 0 ≤ t19 ∧ t19 < (t17.length : Int) then
   if ((t17.getD t19.toNat []).isEmpty ^^ true) = true then
    some (.inl ((i64.wrap (n3 + 1), t17, t18, i64.wrap (t19 + 1))))
   else
    some (.inl ((n3, t17, t18, i64.wrap (t19 + 1))))
  else none
 else
  some (.inr n3)

def ladder_Blocks : tQ → Option (Int) := fun r0 =>
 ((
  if (r0.2.1.isEmpty ^^ true) = true then
   some (((r0, i64.wrap (0 + 1))))
  else
   some (((r0, 0)))) : Option ((tQ) × Int)).bind fun ((r1a, r1b, r1c), n3) =>
  ((
   if (r1c.isEmpty ^^ true) = true then
    some ((((r1a, r1b, r1c), i64.wrap (n3 + 1))))
   else
    some ((((r1a, r1b, r1c), n3)))) : Option ((tQ) × Int)).bind fun ((r1a, r1b, r1c), n3) =>
   (loopO ladder_Blocks.l1 ((n3, r1c, (r1c.length : Int), 0))).bind fun n3 =>
    some n3

def ladder_Blocks.c : Callee' := mkC 66 ⟨29, 0, [], [0], (.cons (.v (.st (.pair (.sl I) (.pair (.nsl I) (.nsl (.nsl I)))))) .nil)⟩ [⟨29, 0, [], [2], (cI .nil)⟩] ladder_Blocks
theorem ladder_Blocks.q : FunQuiet ladder_Blocks.c.F := mkFun_quiet rfl rfl
theorem ladder_Blocks.s : ladder_Blocks.c.ok Tryz.prog := sd 29 (.z (.z (.join [(.norm, ⟨29, 0, [.box (.cons (.v (.sl I)) (.cons (.v (.nsl I)) (.cons (.v (.nsl (.nsl I))) .nil)))], [1, 3], (cr 0 (cI .nil))⟩)]
  (.seq (.reg [.std, .std, .obj .bool]) (.cond (.reg []) .std)) (.join [(.norm, ⟨29, 0, [.box (.cons (.v (.sl I)) (.cons (.v (.nsl I)) (.cons (.v (.nsl (.nsl I))) .nil)))], [1, 3], (cr 0 (cI .nil))⟩)]
  (.seq (.reg [.std, .std, .obj .bool]) (.cond (.reg []) .std)) (.seq (.z (.block (.loop ⟨29, 0, [], [3, 17, 18, 19], (cI (.cons (.v (.nsl (.nsl I))) (cI (cI .nil))))⟩ [(.exit 0, ⟨29, 0, [], [3], (cI .nil)⟩)]
  (.z (.seq (.cond .std .std) (.seq (.block (.z (.seq (.reg [.std, .obj .bool]) (.cond (.reg []) .std)))) (.reg []))))))) (.z .std)))))) kn kn Tryz.func66

def stock_Drop : (((Bool × Int) × (tL) × (Int × Int) × tS × tL) × Int) → Option (((Bool × Int) × (tL) × (Int × Int) × tS × tL) × Int) := fun (((o1b, o1c), o2, (o3c, o3d), o4, o5), block1) =>
 (stock_open ((o1b, o1c), o2, (o3c, o3d), o4, o5)).bind fun d => match d with
 | .inl (((r9, r9_2), r9_3, (r9_4, r9_5), r9_6, r9_7), r9_8) =>
  if (r9_8 != 0) = true then
   some (((((r9, r9_2), r9_3, (r9_4, r9_5), r9_6, r9_7), r9_8)))
  else none
 | .inr ((((r9b, r9_2b), r9_3b, (r9_4b, r9_5b), r9_6b, r9_7b, r9_8b, r9_9b, r9_10b, r9_11b), r9_12b)) =>
  if (r9_12b != 0) = true then
   some (((((r9b, r9_2b), r9_3b, (r9_4b, r9_5b), r9_6b, r9_7b), r9_12b)))
  else
   (crown_Owned ((r9_8b, r9_9b, r9_10b), block1)).bind fun r20 =>
    if (!r20) = false then
     (marks_Is (r9_11b, block1)).bind fun r28 =>
      if (!r28) = true then
       some (((((r9b, r9_2b), r9_3b, (r9_4b, r9_5b), r9_6b, r9_7b), 15)))
      else
       (marks_Set (r9_11b, block1, false)).bind fun r37 =>
        (deal_Deal_Write_1 (((r9b, r9_2b), r9_3b, (r9_4b, r9_5b), r9_6b, r9_7b), 42, r37)).bind fun (((r38, r38_2), r38_3, (r38_4, r38_5), r38_6, r38_7), r38_8) =>
         some (((((r38, r38_2), r38_3, (r38_4, r38_5), r38_6, r38_7), r38_8)))
    else
     some (((((r9b, r9_2b), r9_3b, (r9_4b, r9_5b), r9_6b, r9_7b), 15)))

def stock_Drop.c : Callee' := mkC 48 ⟨39, 0, [.box (cr 1 (cr 2 .nil)), .box (cr 3 (cB (cI .nil))), .map I .str, .box (cr 4 (cr 5 (cI (cI .nil)))), .arr .str, .map I .str], [0, 1], (cr 0 (cI .nil))⟩ [⟨39, 6, [.box (cr 1 (cr 2 .nil)), .box (cr 3 (cB (cI .nil))), .map I .str, .box (cr 4 (cr 5 (cI (cI .nil)))), .arr .str, .map I .str], [4], (cI .nil)⟩] stock_Drop
theorem stock_Drop.s : stock_Drop.c.ok Tryz.prog := sd 39 (.z (.seq (.reg [.std, .call [stock_open.c]]) (.seq (.z (.cond (.z .std) .std)) (.seq (.seq (.reg [.std, .std, .std, .std, .std, .callq [crown_Owned.c], .std, .std, .std, .std, .std, .std, .std, .callq [marks_Is.c]]) (.cond (.z .std) .std)) (.seq (.reg [.std, .std, .std, .std, .std, .std, .callq [marks_Set.c], .call [deal_Deal_Write_1.c]]) .std))))) (kc stock_open.s (kc crown_Owned.s (kc marks_Is.s (kc marks_Set.s (kc deal_Deal_Write_1.s kn))))) (kc crown_Owned.q (kc marks_Is.q (kc marks_Set.q kn))) Tryz.func48

def marks_Run.l1 : (tB × Int × Int × Int × Int) → Option ((tB × Int × Int × Int × Int) ⊕ (Unit ⊕ (Int × Bool))) := fun (m0, n2, length3, row10, i11) =>
 if decide (i11 < n2) = true then
  ((
   (marks_Is (m0, i11)).bind fun r30 =>
    if r30 = true then
     some (((m0, n2, length3, 0, i11)))
    else
     some (((m0, n2, length3, i64.wrap (row10 + 1), i11)))) : Option (tB × Int × Int × Int × Int)).bind fun (m0, n2, length3, row10, i11) =>
   if (row10 == length3) = true then
    some (.inr (.inr (((i64.wrap ((i64.wrap (i11 + 1)) - length3), true)))))
   else
    some (.inl ((m0, n2, length3, row10, i64.wrap (i11 + 1))))
 else
  some (.inr (.inl ()))

def marks_Run : (tB × Int × Int × Int) → Option (Int × Bool) := fun (m0, from1, n2, length3) =>
 if decide (length3 < 1) = true then
  some (((0, false)))
 else
  (loopO marks_Run.l1 ((m0, (if i64.wrap (8 * (m0.length : Int)) < n2 then i64.wrap (8 * (m0.length : Int)) else n2), length3, 0, (if 0 > from1 then 0 else from1)))).bind fun d => match d with
  | .inl _ =>
   some (((0, false)))
  | .inr ((t8, t9)) =>
   some (((t8, t9)))

def marks_Run.c : Callee' := mkC 196 ⟨38, 0, [], [0, 1, 2, 3], (cS (cI (cI (cI .nil))))⟩ [⟨38, 0, [], [8, 9], (cI (cB .nil))⟩] marks_Run
theorem marks_Run.q : FunQuiet marks_Run.c.F := mkFun_quiet rfl rfl
theorem marks_Run.s : marks_Run.c.ok Tryz.prog := sd 38 (.z (.seq (.z (.cond (.z .std) .std)) (.z (.z (.seq (.z (.block (.loop ⟨38, 0, [], [0, 2, 3, 10, 11], (cS (cI (cI (cI (cI .nil)))))⟩ [(.exit 0, ⟨38, 0, [], [], .nil⟩), (.ret, ⟨38, 0, [], [8, 9], (cI (cB .nil))⟩)]
  (.seq (.z (.cond .std .std)) (.seq (.block (.z (.join [(.norm, ⟨38, 0, [], [0, 2, 3, 10, 11], (cS (cI (cI (cI (cI .nil)))))⟩)]
  (.seq (.rq 2 marks_Is.c) (.cond (.reg []) .std)) (.z (.cond (.z .std) .std))))) (.reg [])))))) (.z .std)))))) (kc marks_Is.s kn) (kc marks_Is.q kn) Tryz.func196

def marks_Longest.l1 : (tB × Int × Int × Int × Int × Int) → Option ((tB × Int × Int × Int × Int × Int) ⊕ (Int × Int)) := fun (m0, at6, best7, row8, t15, t16) =>
 if decide (t16 < t15) = true then
  ((
   (marks_Is (m0, t16)).bind fun r23 =>
    if r23 = true then
     some (((m0, at6, best7, 0, t16, t15, t16)))
    else
     some (((m0, at6, best7, i64.wrap (row8 + 1), t16, t15, t16)))) : Option (tB × Int × Int × Int × Int × Int × Int)).bind fun (m0, at6, best7, row8, i9, t15, t16) =>
   if decide (row8 > best7) = true then
    some (.inl ((m0, i64.wrap ((i64.wrap (i9 + 1)) - row8), row8, row8, t15, i64.wrap (t16 + 1))))
   else
    some (.inl ((m0, at6, best7, row8, t15, i64.wrap (t16 + 1))))
 else
  some (.inr (((at6, best7))))

def marks_Longest : (tB × Int) → Option (Int × Int) := fun (m0, n1) =>
 (loopO marks_Longest.l1 ((m0, 0, 0, 0, (if i64.wrap (8 * (m0.length : Int)) < (if 0 > n1 then 0 else n1) then i64.wrap (8 * (m0.length : Int)) else (if 0 > n1 then 0 else n1)), 0))).bind fun (at6, best7) =>
  some (((at6, best7)))

def marks_Longest.c : Callee' := mkC 197 ⟨35, 0, [], [0, 1], (cS (cI .nil))⟩ [⟨35, 0, [], [4, 5], (cI (cI .nil))⟩] marks_Longest
theorem marks_Longest.q : FunQuiet marks_Longest.c.F := mkFun_quiet rfl rfl
theorem marks_Longest.s : marks_Longest.c.ok Tryz.prog := sd 35 (.z (.z (.seq (.z (.block (.loop ⟨35, 0, [], [0, 6, 7, 8, 15, 16], (cS (cI (cI (cI (cI (cI .nil))))))⟩ [(.exit 0, ⟨35, 0, [], [6, 7], (cI (cI .nil))⟩)]
  (.z (.seq (.cond .std .std) (.seq (.block (.z (.z (.join [(.norm, ⟨35, 0, [], [0, 6, 7, 8, 9, 15, 16], (cS (cI (cI (cI (cI (cI (cI .nil)))))))⟩)]
  (.seq (.rq 2 marks_Is.c) (.cond (.reg []) .std)) (.z (.cond (.reg []) .std)))))) (.reg []))))))) (.z .std)))) (kc marks_Is.s kn) (kc marks_Is.q kn) Tryz.func197

def stock_store_row : (((((tS × (tL) × Int × Int) × Bool × Int) × tL) × Int × Int × Int × tB) × Int) → Option (Int × Int) := fun (s0, n1) =>
 (marks_Run (s0.2.2.2.2, 51, s0.2.2.1, n1)).bind fun (r19, r19_2) =>
  if r19_2 = true then
   some (((r19, n1)))
  else
   (stock_low s0.2.2.2.2).bind fun r29 =>
    (marks_Longest (r29, s0.2.2.1)).bind fun (r35, r35_2) =>
     some (((r35, r35_2)))

def stock_store_row.c : Callee' := mkC 173 ⟨38, 0, [], [0, 1], (.cons (.v (.ptr (.pair (.ptr (.pair (.ptr (.pair (.ptr (.pair (.sl .str) (.pair (.map I .str) (.pair I I)))) (.pair .bool I))) (.map I .str))) (.pair I (.pair I (.pair I .str)))))) (cI .nil))⟩ [⟨38, 0, [], [4, 5], (cI (cI .nil))⟩] stock_store_row
theorem stock_store_row.q : FunQuiet stock_store_row.c.F := mkFun_quiet rfl rfl
theorem stock_store_row.s : stock_store_row.c.ok Tryz.prog := sd 38 (.z (.seq (.seq (.drw [.std, .std, .std, .std, .std, .std, .std, .std, .std, .std, .callq [marks_Run.c]]) (.z (.cond (.z .std) .std))) (.seq (.drw [.std, .std, .std, .std, .callq [stock_low.c], .std, .std, .std, .std, .std, .callq [marks_Longest.c]]) .std))) (kc marks_Run.s (kc stock_low.s (kc marks_Longest.s kn))) (kc marks_Run.q (kc stock_low.q (kc marks_Longest.q kn))) Tryz.func173

def stock_store_use.l1 : (((Int × Int × Int × tB) × (Bool × Int) × (tL) × (Int × Int) × tS × tL) × Int × Int × Int) → Option ((((Int × Int × Int × tB) × (Bool × Int) × (tL) × (Int × Int) × tS × tL) × Int × Int × Int) ⊕ (((Int × Int × Int × tB) × (Bool × Int) × (tL) × (Int × Int) × tS × tL) ⊕ (((Int × Int × Int × tB) × (Bool × Int) × (tL) × (Int × Int) × tS × tL) × Int))) := fun (((s0b, s0c, s0d, s0e), (o2b, o2c), o3, (o4c, o4d), o5, o6), at1, n2, i7) =>
 if decide (i7 < i64.wrap (at1 + n2)) = true then
  (marks_Set (s0e, i7, true)).bind fun r23 =>
   (deal_Deal_Write_1 (((o2b, o2c), o3, (o4c, o4d), o5, o6), i7, [])).bind fun (((r31, r31_2), r31_3, (r31_4, r31_5), r31_6, r31_7), r31_8) =>
    if (r31_8 != 0) = true then
     some (.inr (.inr (((((s0b, s0c, s0d, r23), (r31, r31_2), r31_3, (r31_4, r31_5), r31_6, r31_7), r31_8)))))
    else
     some (.inl ((((s0b, s0c, s0d, r23), (r31, r31_2), r31_3, (r31_4, r31_5), r31_6, r31_7), at1, n2, i64.wrap (i7 + 1))))
 else
  some (.inr (.inl (((s0b, s0c, s0d, s0e), (o2b, o2c), o3, (o4c, o4d), o5, o6))))

def stock_store_use : (((Int × Int × Int × tB) × (Bool × Int) × (tL) × (Int × Int) × tS × tL) × Int × Int) → Option (((Int × Int × Int × tB) × (Bool × Int) × (tL) × (Int × Int) × tS × tL) × Int) := fun (((s0b, s0c, s0d, s0e), (o2b, o2c), o3, (o4c, o4d), o5, o6), at1, n2) =>
 (loopO stock_store_use.l1 ((((s0b, s0c, s0d, s0e), (o2b, o2c), o3, (o4c, o4d), o5, o6), at1, n2, at1))).bind fun d => match d with
 | .inl ((s0b, s0c, s0d, s0e), (o2b, o2c), o3, (o4c, o4d), o5, o6) =>
  (deal_Deal_Write_1 (((o2b, o2c), o3, (o4c, o4d), o5, o6), 42, s0e)).bind fun (((r43, r43_2), r43_3, (r43_4, r43_5), r43_6, r43_7), r43_8) =>
   some (((((s0b, s0c, s0d, s0e), (r43, r43_2), r43_3, (r43_4, r43_5), r43_6, r43_7), r43_8)))
 | .inr ((((o0b, o0c, o0d, o0e), (o2b, o2c), o3, (o4c, o4d), o5, o6), t6)) =>
  some (((((o0b, o0c, o0d, o0e), (o2b, o2c), o3, (o4c, o4d), o5, o6), t6)))

def stock_store_use.c : Callee' := mkC 174 ⟨44, 0, [.box (cr 1 (cI (cI (cI (cS .nil))))), .box (cr 2 (cr 3 .nil)), .box (cr 4 (cB (cI .nil))), .map I .str, .box (cr 5 (cr 6 (cI (cI .nil)))), .arr .str, .map I .str], [0, 1, 2], (cr 0 (cI (cI .nil)))⟩ [⟨44, 7, [.box (cr 1 (cI (cI (cI (cS .nil))))), .box (cr 2 (cr 3 .nil)), .box (cr 4 (cB (cI .nil))), .map I .str, .box (cr 5 (cr 6 (cI (cI .nil)))), .arr .str, .map I .str], [6], (cI .nil)⟩] stock_store_use
theorem stock_store_use.s : stock_store_use.c.ok Tryz.prog := sd 44 (.z (.seq (.z (.block (.loop ⟨44, 7, [.box (cr 1 (cI (cI (cI (cS .nil))))), .box (cr 2 (cr 3 .nil)), .box (cr 4 (cB (cI .nil))), .map I .str, .box (cr 5 (cr 6 (cI (cI .nil)))), .arr .str, .map I .str], [0, 1, 2, 7], (cr 0 (cI (cI (cI .nil))))⟩ [(.exit 0, ⟨44, 7, [.box (cr 1 (cI (cI (cI (cS .nil))))), .box (cr 2 (cr 3 .nil)), .box (cr 4 (cB (cI .nil))), .map I .str, .box (cr 5 (cr 6 (cI (cI .nil)))), .arr .str, .map I .str], [0], (cr 0 .nil)⟩), (.ret, ⟨44, 7, [.box (cr 1 (cI (cI (cI (cS .nil))))), .box (cr 2 (cr 3 .nil)), .box (cr 4 (cB (cI .nil))), .map I .str, .box (cr 5 (cr 6 (cI (cI .nil)))), .arr .str, .map I .str], [6], (cI .nil)⟩)]
  (.seq (.z (.cond .std .std)) (.seq (.block (.seq (.rq 6 marks_Set.c) (.seq (.reg [.std, .std, .std, .std, .std, .call [deal_Deal_Write_1.c]]) (.z (.cond (.z .std) .std))))) (.reg [])))))) (.seq (.drw [.std, .std, .std, .std, .std, .std, .std, .std, .call [deal_Deal_Write_1.c]]) .std))) (kc marks_Set.s (kc deal_Deal_Write_1.s (kc deal_Deal_Write_1.s kn))) (kc marks_Set.q kn) Tryz.func174

def stock_Run : (((Bool × Int) × (tL) × (Int × Int) × tS × tL) × Int) → Option (((Bool × Int) × (tL) × (Int × Int) × tS × tL) × Int × Int × Int) := fun (((o1b, o1c), o2, (o3c, o3d), o4, o5), n1) =>
 (stock_open ((o1b, o1c), o2, (o3c, o3d), o4, o5)).bind fun d => match d with
 | .inl (((r12, r12_2), r12_3, (r12_4, r12_5), r12_6, r12_7), r12_8) =>
  if (r12_8 != 0) = true then
   some (((((r12, r12_2), r12_3, (r12_4, r12_5), r12_6, r12_7), 0, 0, r12_8)))
  else
   if decide (n1 < 1) = true then
    some (((((r12, r12_2), r12_3, (r12_4, r12_5), r12_6, r12_7), 0, 0, 1)))
   else none
 | .inr ((((r12b, r12_2b), r12_3b, (r12_4b, r12_5b), r12_6b, r12_7b, r12_8b, r12_9b, r12_10b, r12_11b), r12_12b)) =>
  if (r12_12b != 0) = true then
   some (((((r12b, r12_2b), r12_3b, (r12_4b, r12_5b), r12_6b, r12_7b), 0, 0, r12_12b)))
  else
   if decide (n1 < 1) = true then
    some (((((r12b, r12_2b), r12_3b, (r12_4b, r12_5b), r12_6b, r12_7b), 0, 0, 1)))
   else
    (stock_store_row (((((r12_6b, r12_7b, r12_4b, r12_5b), r12b, r12_2b), r12_3b), r12_8b, r12_9b, r12_10b, r12_11b), n1)).bind fun (r25, r25_2) =>
     if (r25_2 == 0) = true then
      some (((((r12b, r12_2b), r12_3b, (r12_4b, r12_5b), r12_6b, r12_7b), 0, 0, 10)))
     else
      (stock_store_use (((r12_8b, r12_9b, r12_10b, r12_11b), (r12b, r12_2b), r12_3b, (r12_4b, r12_5b), r12_6b, r12_7b), r25, r25_2)).bind fun (((r35, r35_2, r35_3, r35_4), (r35_5, r35_6), r35_7, (r35_8, r35_9), r35_10, r35_11), r35_12) =>
       some (((((r35_5, r35_6), r35_7, (r35_8, r35_9), r35_10, r35_11), r25, r25_2, r35_12)))

def stock_Run.c : Callee' := mkC 146 ⟨36, 0, [.box (cr 1 (cr 2 .nil)), .box (cr 3 (cB (cI .nil))), .map I .str, .box (cr 4 (cr 5 (cI (cI .nil)))), .arr .str, .map I .str], [0, 1], (cr 0 (cI .nil))⟩ [⟨36, 6, [.box (cr 1 (cr 2 .nil)), .box (cr 3 (cB (cI .nil))), .map I .str, .box (cr 4 (cr 5 (cI (cI .nil)))), .arr .str, .map I .str], [4, 5, 6], (cI (cI (cI .nil)))⟩] stock_Run
theorem stock_Run.s : stock_Run.c.ok Tryz.prog := sd 36 (.z (.seq (.reg [.std, .call [stock_open.c]]) (.seq (.block (.z (.cond (.z .std) (.z (.cond (.z .std) .std))))) (.seq (.rq 2 stock_store_row.c) (.seq (.z (.cond (.z .std) .std)) (.seq (.reg [.std, .std, .std, .std, .std, .call [stock_store_use.c]]) .std)))))) (kc stock_open.s (kc stock_store_row.s (kc stock_store_use.s kn))) (kc stock_store_row.q kn) Tryz.func146

def stock_Take : ((Bool × Int) × (tL) × (Int × Int) × tS × tL) → Option (((Bool × Int) × (tL) × (Int × Int) × tS × tL) × Int × Int) := fun ((o1b, o1c), o2, (o3c, o3d), o4, o5) =>
 (stock_Run (((o1b, o1c), o2, (o3c, o3d), o4, o5), 1)).bind fun (((r9, r9_2), r9_3, (r9_4, r9_5), r9_6, r9_7), r9_8, r9_9, r9_10) =>
  some (((((r9, r9_2), r9_3, (r9_4, r9_5), r9_6, r9_7), r9_8, r9_10)))

def stock_Take.c : Callee' := mkC 97 ⟨15, 0, [.box (cr 1 (cr 2 .nil)), .box (cr 3 (cB (cI .nil))), .map I .str, .box (cr 4 (cr 5 (cI (cI .nil)))), .arr .str, .map I .str], [0], (cr 0 .nil)⟩ [⟨15, 6, [.box (cr 1 (cr 2 .nil)), .box (cr 3 (cB (cI .nil))), .map I .str, .box (cr 4 (cr 5 (cI (cI .nil)))), .arr .str, .map I .str], [2, 3], (cI (cI .nil))⟩] stock_Take
theorem stock_Take.s : stock_Take.c.ok Tryz.prog := sd 15 (.z (.seq (.reg [.std, .call [stock_Run.c]]) (.z .std))) (kc stock_Run.s kn) kn Tryz.func97

def chains_writer_take : (Int × (Bool × Int) × (tL) × (Int × Int) × tS × tL) → Option ((Int × (Bool × Int) × (tL) × (Int × Int) × tS × tL) × Int) := fun (w0, (o2b, o2c), o3, (o4c, o4d), o5, o6) =>
 if (w0 != 0) = true then
  some ((((w0, (o2b, o2c), o3, (o4c, o4d), o5, o6), 0)))
 else
  (stock_Take ((o2b, o2c), o3, (o4c, o4d), o5, o6)).bind fun (((r15, r15_2), r15_3, (r15_4, r15_5), r15_6, r15_7), r15_8, r15_9) =>
   some ((((r15_9, (r15, r15_2), r15_3, (r15_4, r15_5), r15_6, r15_7), r15_8)))

def chains_writer_take.c : Callee' := mkC 68 ⟨23, 0, [.box (cr 1 (cI .nil)), .box (cr 2 (cr 3 .nil)), .box (cr 4 (cB (cI .nil))), .map I .str, .box (cr 5 (cr 6 (cI (cI .nil)))), .arr .str, .map I .str], [0], (cr 0 .nil)⟩ [⟨23, 7, [.box (cr 1 (cI .nil)), .box (cr 2 (cr 3 .nil)), .box (cr 4 (cB (cI .nil))), .map I .str, .box (cr 5 (cr 6 (cI (cI .nil)))), .arr .str, .map I .str], [2], (cI .nil)⟩] chains_writer_take
theorem chains_writer_take.s : chains_writer_take.c.ok Tryz.prog := sd 23 (.z (.seq (.z (.cond (.z .std) .std)) (.seq (.reg [.std, .std, .std, .std, .call [stock_Take.c]]) (.z (.z .std))))) (kc stock_Take.s kn) kn Tryz.func68

def mould_Write_1.l2 : (tI × tI × Int × Int × tI × Int × Int) → Option ((tI × tI × Int × Int × tI × Int × Int) ⊕ (tI × tI × tI × Int × Int)) := fun (b6, widths0, v8, w9, t23, t24, t25) =>
 if decide (w9 > 0) = true then
  if roomOk (b6.length + (([u8.wrap (v8)] : tI)).length) 1 then
   some (.inl ((b6 ++ (([u8.wrap (v8)] : tI)), widths0, Int.fdiv v8 (2 ^ 8), i64.wrap (w9 - 1), t23, t24, t25)))
  else none
 else
  some (.inr (((b6, widths0, t23, t24, t25))))

def mould_Write_1.l1 : (tI × tI × tI × Int × Int) → Option ((tI × tI × tI × Int × Int) ⊕ (tI ⊕ (tB × Int))) := fun (b6, widths0, t23, t24, t25) =>
 if decide (t25 < t24) = true then
  if 0 ≤ t25 ∧ t25 < (t23.length : Int) then
   if 0 ≤ t25 ∧ t25 < (widths0.length : Int) then
    if decide (t23.getD t25.toNat 0 < 0) = false then
     if 0 ≤ i64.wrap (8 * (widths0.getD t25.toNat 0)) then
      if (Int.fdiv (t23.getD t25.toNat 0) (2 ^ (min (i64.wrap (8 * (widths0.getD t25.toNat 0))).toNat 64)) != 0) = true then
       some (.inr (.inr ((([], 3)))))
      else
       (loopO mould_Write_1.l2 ((b6, widths0, t23.getD t25.toNat 0, widths0.getD t25.toNat 0, t23, t24, t25))).bind fun (b6, widths0, t23, t24, t25) =>
        some (.inl ((b6, widths0, t23, t24, i64.wrap (t25 + 1))))
     else none
    else
     some (.inr (.inr ((([], 3)))))
   else none
  else none
 else
  some (.inr (.inl b6))

def mould_Write_1 : (tI × tI) → Option (tB × Int) := fun (widths0, values1) =>
 (mould_Size widths0).bind fun r11 =>
  if decide (r11 < 0) = false then
   if ((widths0.length : Int) != (values1.length : Int)) = true then
    some ((([], 1)))
   else
    (mould_Size widths0).bind fun r21 =>
     if 0 ≤ (0 : Int) ∧ (0 : Int) ≤ r21 ∧ r21 * (1 : Nat) ≤ 140737488355328 ∧ r21 ≤ 9223372036854775807 then
      (loopO mould_Write_1.l1 ((List.replicate 0 (0 : Int), widths0, values1, (values1.length : Int), 0))).bind fun d => match d with
      | .inl b6 =>
       some (((b6.map fun (n : Int) => UInt8.ofNat n.toNat, 0)))
      | .inr ((t4, t5)) =>
       some (((t4, t5)))
     else none
  else
   some ((([], 1)))

def mould_Write_1.c : Callee' := mkC 98 ⟨57, 0, [], [0, 1], (.cons (.v (.sl I)) (.cons (.v (.nsl I)) .nil))⟩ [⟨57, 0, [], [4, 5], (cS (cI .nil))⟩] mould_Write_1
theorem mould_Write_1.q : FunQuiet mould_Write_1.c.F := mkFun_quiet rfl rfl
theorem mould_Write_1.s : mould_Write_1.c.ok Tryz.prog := sd 57 (.z (.seq (.seq (.reg [.std, .callq [mould_Size.c]]) (.cond (.z .std) .std)) (.seq (.reg [.std, .callq [mould_Size.c], .obj (.int .u8)]) (.seq (.z (.block (.loop ⟨57, 0, [.arr (.int .u8)], [0, 6, 23, 24, 25], (.cons (.v (.sl I)) (cr 0 (.cons (.v (.nsl I)) (cI (cI .nil)))))⟩ [(.exit 0, ⟨57, 0, [.arr (.int .u8)], [6], (cr 0 .nil)⟩), (.ret, ⟨57, 0, [], [4, 5], (cS (cI .nil))⟩)]
  (.z (.seq (.cond .std .std) (.seq (.block (.z (.z (.seq (.z (.cond (.z .std) .std)) (.block (.loop ⟨57, 0, [.arr (.int .u8)], [0, 6, 8, 9, 23, 24, 25], (.cons (.v (.sl I)) (cr 0 (cI (cI (.cons (.v (.nsl I)) (cI (cI .nil)))))))⟩ [(.exit 2, ⟨57, 0, [.arr (.int .u8)], [0, 6, 23, 24, 25], (.cons (.v (.sl I)) (cr 0 (.cons (.v (.nsl I)) (cI (cI .nil)))))⟩)]
  (.seq (.z (.cond .std .std)) (.seq (.block (.seq (.reg [.std, .std, .std, .inl (.int .u8), .obj (.int .u8)]) (.reg []))) (.reg []))))))))) (.reg []))))))) (.z .std))))) (kc mould_Size.s (kc mould_Size.s kn)) (kc mould_Size.q (kc mould_Size.q kn)) Tryz.func98

def ladder_Write : tI → Option (tB × Int) := fun l0 =>
 (ladder_widths ()).bind fun r7 =>
  (mould_Write_1 (r7, l0)).bind fun (r9, r9_2) =>
   if (r9_2 != 0) = true then
    some ((([], r9_2)))
   else
    (mould_Pad (r9, 128)).bind fun (r16, r16_2) =>
     some (((r16, r16_2)))

def ladder_Write.c : Callee' := mkC 113 ⟨19, 0, [], [0], (.cons (.v (.nsl I)) .nil)⟩ [⟨19, 0, [], [2, 3], (cS (cI .nil))⟩] ladder_Write
theorem ladder_Write.q : FunQuiet ladder_Write.c.F := mkFun_quiet rfl rfl
theorem ladder_Write.s : ladder_Write.c.ok Tryz.prog := sd 19 (.z (.seq (.reg [.callq [ladder_widths.c], .std, .callq [mould_Write_1.c]]) (.seq (.z (.cond (.z .std) .std)) (.seq (.reg [.std, .callq [mould_Pad.c]]) .std)))) (kc ladder_widths.s (kc mould_Write_1.s (kc mould_Pad.s kn))) (kc ladder_widths.q (kc mould_Write_1.q (kc mould_Pad.q kn))) Tryz.func113

def chains_writer_put : ((Int × (Bool × Int) × (tL) × (Int × Int) × tS × tL) × Int × tI) → Option (Int × (Bool × Int) × (tL) × (Int × Int) × tS × tL) := fun ((w0, (o2b, o2c), o3, (o4c, o4d), o5, o6), block1, l2) =>
 if (w0 != 0) = true then
  some (((w0, (o2b, o2c), o3, (o4c, o4d), o5, o6)))
 else
  (ladder_Write l2).bind fun (r15, r15_2) =>
   if (r15_2 == 0) = true then
    (deal_Deal_Write_1 (((o2b, o2c), o3, (o4c, o4d), o5, o6), block1, r15)).bind fun (((r26, r26_2), r26_3, (r26_4, r26_5), r26_6, r26_7), r26_8) =>
     some (((r26_8, (r26, r26_2), r26_3, (r26_4, r26_5), r26_6, r26_7)))
   else
    some (((r15_2, (o2b, o2c), o3, (o4c, o4d), o5, o6)))

def chains_writer_put.c : Callee' := mkC 69 ⟨31, 0, [.box (cr 1 (cI .nil)), .box (cr 2 (cr 3 .nil)), .box (cr 4 (cB (cI .nil))), .map I .str, .box (cr 5 (cr 6 (cI (cI .nil)))), .arr .str, .map I .str], [0, 1, 2], (cr 0 (cI (.cons (.v (.nsl I)) .nil)))⟩ [⟨31, 7, [.box (cr 1 (cI .nil)), .box (cr 2 (cr 3 .nil)), .box (cr 4 (cB (cI .nil))), .map I .str, .box (cr 5 (cr 6 (cI (cI .nil)))), .arr .str, .map I .str], [], .nil⟩] chains_writer_put
theorem chains_writer_put.s : chains_writer_put.c.ok Tryz.prog := sd 31 (.seq (.z (.cond .std .std)) (.seq (.reg [.std, .callq [ladder_Write.c]]) (.seq (.z (.cond (.reg [.std, .std, .std, .std, .std, .std, .call [deal_Deal_Write_1.c]]) .std)) (.reg [])))) (kc ladder_Write.s (kc deal_Deal_Write_1.s kn)) (kc ladder_Write.q kn) Tryz.func69

def chains_writer_list : ((Int × (Bool × Int) × (tL) × (Int × Int) × tS × tL) × tI) → Option ((Int × (Bool × Int) × (tL) × (Int × Int) × tS × tL) × Int) := fun ((w0, (o2b, o2c), o3, (o4c, o4d), o5, o6), l1) =>
 if (l1.isEmpty ^^ false) = true then
  some ((((w0, (o2b, o2c), o3, (o4c, o4d), o5, o6), 0)))
 else
  (chains_writer_take (w0, (o2b, o2c), o3, (o4c, o4d), o5, o6)).bind fun ((r9, (r9_2, r9_3), r9_4, (r9_5, r9_6), r9_7, r9_8), r9_9) =>
   (chains_writer_put ((r9, (r9_2, r9_3), r9_4, (r9_5, r9_6), r9_7, r9_8), r9_9, l1)).bind fun (r13, (r13_2, r13_3), r13_4, (r13_5, r13_6), r13_7, r13_8) =>
    some ((((r13, (r13_2, r13_3), r13_4, (r13_5, r13_6), r13_7, r13_8), r9_9)))

def chains_writer_list.c : Callee' := mkC 67 ⟨15, 0, [.box (cr 1 (cI .nil)), .box (cr 2 (cr 3 .nil)), .box (cr 4 (cB (cI .nil))), .map I .str, .box (cr 5 (cr 6 (cI (cI .nil)))), .arr .str, .map I .str], [0, 1], (cr 0 (.cons (.v (.nsl I)) .nil))⟩ [⟨15, 7, [.box (cr 1 (cI .nil)), .box (cr 2 (cr 3 .nil)), .box (cr 4 (cB (cI .nil))), .map I .str, .box (cr 5 (cr 6 (cI (cI .nil)))), .arr .str, .map I .str], [4], (cI .nil)⟩] chains_writer_list
theorem chains_writer_list.s : chains_writer_list.c.ok Tryz.prog := sd 15 (.z (.seq (.seq (.reg [.std, .obj .bool]) (.cond (.z .std) .std)) (.seq (.reg [.std, .call [chains_writer_take.c]]) (.seq (.reg [.std, .std, .std, .call [chains_writer_put.c]]) (.z .std))))) (kc chains_writer_take.s (kc chains_writer_put.s kn)) kn Tryz.func67

def ladder_Write_1 : tI → Option (tB × Int) := fun l0 =>
 (ladder_widths ()).bind fun r7 =>
  (mould_Write (r7, l0)).bind fun (r9, r9_2) =>
   if (r9_2 != 0) = true then
    some ((([], r9_2)))
   else
    (mould_Pad (r9, 128)).bind fun (r16, r16_2) =>
     some (((r16, r16_2)))

def ladder_Write_1.c : Callee' := mkC 113 ⟨19, 0, [], [0], (.cons (.v (.sl I)) .nil)⟩ [⟨19, 0, [], [2, 3], (cS (cI .nil))⟩] ladder_Write_1
theorem ladder_Write_1.q : FunQuiet ladder_Write_1.c.F := mkFun_quiet rfl rfl
theorem ladder_Write_1.s : ladder_Write_1.c.ok Tryz.prog := sd 19 (.z (.seq (.reg [.callq [ladder_widths.c], .std, .callq [mould_Write.c]]) (.seq (.z (.cond (.z .std) .std)) (.seq (.reg [.std, .callq [mould_Pad.c]]) .std)))) (kc ladder_widths.s (kc mould_Write.s (kc mould_Pad.s kn))) (kc ladder_widths.q (kc mould_Write.q (kc mould_Pad.q kn))) Tryz.func113

def chains_writer_put_1 : ((Int × (Bool × Int) × (tL) × (Int × Int) × tS × tL) × Int × tI) → Option (Int × (Bool × Int) × (tL) × (Int × Int) × tS × tL) := fun ((w0, (o2b, o2c), o3, (o4c, o4d), o5, o6), block1, l2) =>
 if (w0 != 0) = true then
  some (((w0, (o2b, o2c), o3, (o4c, o4d), o5, o6)))
 else
  (ladder_Write_1 l2).bind fun (r15, r15_2) =>
   if (r15_2 == 0) = true then
    (deal_Deal_Write_1 (((o2b, o2c), o3, (o4c, o4d), o5, o6), block1, r15)).bind fun (((r26, r26_2), r26_3, (r26_4, r26_5), r26_6, r26_7), r26_8) =>
     some (((r26_8, (r26, r26_2), r26_3, (r26_4, r26_5), r26_6, r26_7)))
   else
    some (((r15_2, (o2b, o2c), o3, (o4c, o4d), o5, o6)))

def chains_writer_put_1.c : Callee' := mkC 69 ⟨31, 0, [.box (cr 1 (cI .nil)), .box (cr 2 (cr 3 .nil)), .box (cr 4 (cB (cI .nil))), .map I .str, .box (cr 5 (cr 6 (cI (cI .nil)))), .arr .str, .map I .str], [0, 1, 2], (cr 0 (cI (.cons (.v (.sl I)) .nil)))⟩ [⟨31, 7, [.box (cr 1 (cI .nil)), .box (cr 2 (cr 3 .nil)), .box (cr 4 (cB (cI .nil))), .map I .str, .box (cr 5 (cr 6 (cI (cI .nil)))), .arr .str, .map I .str], [], .nil⟩] chains_writer_put_1
theorem chains_writer_put_1.s : chains_writer_put_1.c.ok Tryz.prog := sd 31 (.seq (.z (.cond .std .std)) (.seq (.reg [.std, .callq [ladder_Write_1.c]]) (.seq (.z (.cond (.reg [.std, .std, .std, .std, .std, .std, .call [deal_Deal_Write_1.c]]) .std)) (.reg [])))) (kc ladder_Write_1.s (kc deal_Deal_Write_1.s kn)) (kc ladder_Write_1.q kn) Tryz.func69

def chains_Save.l1 : (((Bool × Int) × (tL) × (Int × Int) × tS × (tL) × tC × tC × tQ) × tI × Int × Int) → Option ((((Bool × Int) × (tL) × (Int × Int) × tS × (tL) × tC × tC × tQ) × tI × Int × Int) ⊕ (((Bool × Int) × (tL) × (Int × Int) × tS × (tL) × tC × tC × tQ) ⊕ (((Bool × Int) × (tL) × (Int × Int) × tS × (tL) × tC) × Int))) := fun (((o1b, o1c), o2, (o3c, o3d), o4, o5, (c4a, c4b, c4c, c4d, c4e, c4f, c4g, c4h, c4i), (t6a, t6b, t6c, t6d, t6e, t6f, t6g, t6h, t6i), rungs11a, rungs11b, rungs11c), t72, t73, t74) =>
 if decide (t74 < t73) = true then
  if 0 ≤ t74 ∧ t74 < (t72.length : Int) then
   (stock_Drop (((o1b, o1c), o2, (o3c, o3d), o4, o5), t72.getD t74.toNat 0)).bind fun (((r80, r80_2), r80_3, (r80_4, r80_5), r80_6, r80_7), r80_8) =>
    if (r80_8 != 0) = true then
     some (.inr (.inr (((((r80, r80_2), r80_3, (r80_4, r80_5), r80_6, r80_7, 0, 0, 0, 0, ([] : tI), 0, 0, ([] : List (Int × Int × Int)), 0), r80_8)))))
    else
     some (.inl ((((r80, r80_2), r80_3, (r80_4, r80_5), r80_6, r80_7, (c4a, c4b, c4c, c4d, c4e, c4f, c4g, c4h, c4i), (t6a, t6b, t6c, t6d, t6e, t6f, t6g, t6h, t6i), rungs11a, rungs11b, rungs11c), t72, t73, i64.wrap (t74 + 1))))
  else none
 else
  some (.inr (.inl (((o1b, o1c), o2, (o3c, o3d), o4, o5, (c4a, c4b, c4c, c4d, c4e, c4f, c4g, c4h, c4i), (t6a, t6b, t6c, t6d, t6e, t6f, t6g, t6h, t6i), rungs11a, rungs11b, rungs11c))))

def chains_Save.l2 : (((Bool × Int) × (tL) × (Int × Int) × tS × (tL) × tC × tC × Int × tI) × List (tI) × Int × Int) → Option ((((Bool × Int) × (tL) × (Int × Int) × tS × (tL) × tC × tC × Int × tI) × List (tI) × Int × Int) ⊕ ((Bool × Int) × (tL) × (Int × Int) × tS × (tL) × tC × tC × Int × tI)) := fun (((o1b, o1c), o2, (o3c, o3d), o4, o5, (c4a, c4b, c4c, c4d, c4e, c4f, c4g, c4h, c4i), (t6a, t6b, t6c, t6d, t6e, t6f, t6g, t6h, t6i), w18, blocks19), t105, t106, t107) =>
 if decide (t107 < t106) = true then
  if 0 ≤ t107 ∧ t107 < (t105.length : Int) then
   (chains_writer_list ((w18, (o1b, o1c), o2, (o3c, o3d), o4, o5), t105.getD t107.toNat [])).bind fun ((r114, (r114_2, r114_3), r114_4, (r114_5, r114_6), r114_7, r114_8), r114_9) =>
    if roomOk (blocks19.length + (([r114_9] : tI)).length) 8 then
     some (.inl ((((r114_2, r114_3), r114_4, (r114_5, r114_6), r114_7, r114_8, (c4a, c4b, c4c, c4d, c4e, c4f, c4g, c4h, c4i), (t6a, t6b, t6c, t6d, t6e, t6f, t6g, t6h, t6i), r114, blocks19 ++ (([r114_9] : tI))), t105, t106, i64.wrap (t107 + 1))))
    else none
  else none
 else
  some (.inr ((((o1b, o1c), o2, (o3c, o3d), o4, o5, (c4a, c4b, c4c, c4d, c4e, c4f, c4g, c4h, c4i), (t6a, t6b, t6c, t6d, t6e, t6f, t6g, t6h, t6i), w18, blocks19))))

def chains_Save.l3 : (((Bool × Int) × (tL) × (Int × Int) × tS × (tL) × tC × tC × tQ) × tI × Int × Int) → Option ((((Bool × Int) × (tL) × (Int × Int) × tS × (tL) × tC × tC × tQ) × tI × Int × Int) ⊕ (((Bool × Int) × (tL) × (Int × Int) × tS × (tL) × tC × tC × tQ) ⊕ (((Bool × Int) × (tL) × (Int × Int) × tS × (tL) × tC) × Int))) := fun (((o1b, o1c), o2, (o3c, o3d), o4, o5, (c4a, c4b, c4c, c4d, c4e, c4f, c4g, c4h, c4i), (t6a, t6b, t6c, t6d, t6e, t6f, t6g, t6h, t6i), rungs11a, rungs11b, rungs11c), t72, t73, t74) =>
 if decide (t74 < t73) = true then
  if 0 ≤ t74 ∧ t74 < (t72.length : Int) then
   (stock_Drop (((o1b, o1c), o2, (o3c, o3d), o4, o5), t72.getD t74.toNat 0)).bind fun (((r80a, r80a_2), r80a_3, (r80a_4, r80a_5), r80a_6, r80a_7), r80a_8) =>
    if (r80a_8 != 0) = true then
     some (.inr (.inr (((((r80a, r80a_2), r80a_3, (r80a_4, r80a_5), r80a_6, r80a_7, 0, 0, 0, 0, ([] : tI), 0, 0, ([] : List (Int × Int × Int)), 0), r80a_8)))))
    else
     some (.inl ((((r80a, r80a_2), r80a_3, (r80a_4, r80a_5), r80a_6, r80a_7, (c4a, c4b, c4c, c4d, c4e, c4f, c4g, c4h, c4i), (t6a, t6b, t6c, t6d, t6e, t6f, t6g, t6h, t6i), rungs11a, rungs11b, rungs11c), t72, t73, i64.wrap (t74 + 1))))
  else none
 else
  some (.inr (.inl (((o1b, o1c), o2, (o3c, o3d), o4, o5, (c4a, c4b, c4c, c4d, c4e, c4f, c4g, c4h, c4i), (t6a, t6b, t6c, t6d, t6e, t6f, t6g, t6h, t6i), rungs11a, rungs11b, rungs11c))))

def chains_Save.l4 : (((Bool × Int) × (tL) × (Int × Int) × tS × (tL) × tC × tC × Int × tI) × List (tI) × Int × Int) → Option ((((Bool × Int) × (tL) × (Int × Int) × tS × (tL) × tC × tC × Int × tI) × List (tI) × Int × Int) ⊕ ((Bool × Int) × (tL) × (Int × Int) × tS × (tL) × tC × tC × Int × tI)) := fun (((o1b, o1c), o2, (o3c, o3d), o4, o5, (c4a, c4b, c4c, c4d, c4e, c4f, c4g, c4h, c4i), (t6a, t6b, t6c, t6d, t6e, t6f, t6g, t6h, t6i), w18, blocks19), t105, t106, t107) =>
 if decide (t107 < t106) = true then
  if 0 ≤ t107 ∧ t107 < (t105.length : Int) then
   (chains_writer_list ((w18, (o1b, o1c), o2, (o3c, o3d), o4, o5), t105.getD t107.toNat [])).bind fun ((r114a, (r114a_2, r114a_3), r114a_4, (r114a_5, r114a_6), r114a_7, r114a_8), r114a_9) =>
    if roomOk (blocks19.length + (([r114a_9] : tI)).length) 8 then
     some (.inl ((((r114a_2, r114a_3), r114a_4, (r114a_5, r114a_6), r114a_7, r114a_8, (c4a, c4b, c4c, c4d, c4e, c4f, c4g, c4h, c4i), (t6a, t6b, t6c, t6d, t6e, t6f, t6g, t6h, t6i), r114a, blocks19 ++ (([r114a_9] : tI))), t105, t106, i64.wrap (t107 + 1))))
    else none
  else none
 else
  some (.inr ((((o1b, o1c), o2, (o3c, o3d), o4, o5, (c4a, c4b, c4c, c4d, c4e, c4f, c4g, c4h, c4i), (t6a, t6b, t6c, t6d, t6e, t6f, t6g, t6h, t6i), w18, blocks19))))

def chains_Save : (((Bool × Int) × (tL) × (Int × Int) × tS × tL) × tC × tI) → Option (((Bool × Int) × (tL) × (Int × Int) × tS × tL) × tC × Int) := fun (((o1b, o1c), o2, (o3c, o3d), o4, o5), c1, m2) =>
 (chains_load_1 (((o1b, o1c), o2, (o3c, o3d), o4, o5), c1)).bind fun (((r25, r25_2), r25_3, (r25_4, r25_5), r25_6, r25_7), r25_8, r25_9, r25_10) =>
  if (r25_10 != 0) = true then
   some (((((r25, r25_2), r25_3, (r25_4, r25_5), r25_6, r25_7), zC, r25_10)))
  else
   (ladder_Of m2).bind fun (r35, r35_2) =>
    if (r35_2 != 0) = true then
     some (((((r25, r25_2), r25_3, (r25_4, r25_5), r25_6, r25_7), zC, r35_2)))
    else
     (chains_open_2 (((r25, r25_2), r25_3, (r25_4, r25_5), r25_6, r25_7), c1)).bind fun d => match d with
     | .inl (((r45, r45_2), r45_3, (r45_4, r45_5), r45_6, r45_7), r45_8) =>
      (slices_ContainsFunc_int_int_5 m2).bind fun r51 =>
       if r51 = true then
        some (((((r45, r45_2), r45_3, (r45_4, r45_5), r45_6, r45_7), zC, 15)))
       else
        (stock_Free ((r45, r45_2), r45_3, (r45_4, r45_5), r45_6, r45_7)).bind fun (((r55, r55_2), r55_3, (r55_4, r55_5), r55_6, r55_7), r55_8, r55_9) =>
         if (r55_9 != 0) = true then
          some (((((r55, r55_2), r55_3, (r55_4, r55_5), r55_6, r55_7), zC, r55_9)))
         else
          (ladder_Blocks r35).bind fun r69 =>
           if decide (i64.wrap (r55_8 + (r25_9.length : Int)) < r69) = true then
            some (((((r55, r55_2), r55_3, (r55_4, r55_5), r55_6, r55_7), zC, 10)))
           else
            (loopO chains_Save.l1 ((((r55, r55_2), r55_3, (r55_4, r55_5), r55_6, r55_7, c1, zC, r35), r25_9, (r25_9.length : Int), 0))).bind fun d => match d with
            | .inl ((o1b, o1c), o2, (o3c, o3d), o4, o5, (c4a, c4b, c4c, c4d, c4e, c4f, c4g, c4h, c4i), (t6a, t6b, t6c, t6d, t6e, t6f, t6g, t6h, t6i), rungs11a, rungs11b, rungs11c) =>
             (chains_writer_list ((0, (o1b, o1c), o2, (o3c, o3d), o4, o5), rungs11b)).bind fun ((r94, (r94_2, r94_3), r94_4, (r94_5, r94_6), r94_7, r94_8), r94_9) =>
              ((
               if (rungs11c.isEmpty ^^ true) = true then
                (chains_writer_take (r94, (r94_2, r94_3), r94_4, (r94_5, r94_6), r94_7, r94_8)).bind fun ((r102, (r102_2, r102_3), r102_4, (r102_5, r102_6), r102_7, r102_8), r102_9) =>
                 (loopO chains_Save.l2 ((((r102_2, r102_3), r102_4, (r102_5, r102_6), r102_7, r102_8, (c4a, c4b, c4c, c4d, rungs11a, r94_9, r102_9, c4h, c4i), (t6a, t6b, t6c, t6d, t6e, t6f, t6g, t6h, t6i), r102, []), rungs11c, (rungs11c.length : Int), 0))).bind fun ((o1b, o1c), o2, (o3c, o3d), o4, o5, (c4a, c4b, c4c, c4d, c4e, c4f, c4g, c4h, c4i), (t6a, t6b, t6c, t6d, t6e, t6f, t6g, t6h, t6i), w18, blocks19) =>
                  (chains_writer_put_1 ((w18, (o1b, o1c), o2, (o3c, o3d), o4, o5), c4g, blocks19)).bind fun (r122, (r122_2, r122_3), r122_4, (r122_5, r122_6), r122_7, r122_8) =>
                   some ((((r122_2, r122_3), r122_4, (r122_5, r122_6), r122_7, r122_8, (c4a, c4b, c4c, c4d, c4e, c4f, c4g, c4h, c4i), (t6a, t6b, t6c, t6d, t6e, t6f, t6g, t6h, t6i), r122)))
               else
                some ((((r94_2, r94_3), r94_4, (r94_5, r94_6), r94_7, r94_8, (c4a, c4b, c4c, c4d, rungs11a, r94_9, 0, c4h, c4i), (t6a, t6b, t6c, t6d, t6e, t6f, t6g, t6h, t6i), r94)))) : Option ((Bool × Int) × (tL) × (Int × Int) × tS × (tL) × tC × tC × Int)).bind fun ((o1b, o1c), o2, (o3c, o3d), o4, o5, (c4a, c4b, c4c, c4d, c4e, c4f, c4g, c4h, c4i), (t6a, t6b, t6c, t6d, t6e, t6f, t6g, t6h, t6i), w18) =>
               if (w18 != 0) = true then
                some (((((o1b, o1c), o2, (o3c, o3d), o4, o5), zC, w18)))
               else
                some (((((o1b, o1c), o2, (o3c, o3d), o4, o5), (c4a, c4b, c4c, c4d, c4e, c4f, c4g, c4h, c4i), 0)))
            | .inr ((((o1b, o1c), o2, (o3c, o3d), o4, o5, t6a, t6b, t6c, t6d, t6e, t6f, t6g, t6h, t6i), t7)) =>
             some (((((o1b, o1c), o2, (o3c, o3d), o4, o5), (t6a, t6b, t6c, t6d, t6e, t6f, t6g, t6h, t6i), t7)))
     | .inr ((((r45b, r45_2b), r45_3b, (r45_4b, r45_5b), r45_6b, r45_7b, r45_8b, r45_9b, r45_10b, r45_11b, r45_12b), r45_13b)) =>
      (slices_ContainsFunc_int_int_2 (m2, (((r45_6b, r45_7b, r45_4b, r45_5b), r45b, r45_2b), r45_3b), r45_8b, r45_9b, r45_10b, r45_11b, r45_12b)).bind fun r51a =>
       if r51a = true then
        some (((((r45b, r45_2b), r45_3b, (r45_4b, r45_5b), r45_6b, r45_7b), zC, 15)))
       else
        (stock_Free ((r45b, r45_2b), r45_3b, (r45_4b, r45_5b), r45_6b, r45_7b)).bind fun (((r55a, r55a_2), r55a_3, (r55a_4, r55a_5), r55a_6, r55a_7), r55a_8, r55a_9) =>
         if (r55a_9 != 0) = true then
          some (((((r55a, r55a_2), r55a_3, (r55a_4, r55a_5), r55a_6, r55a_7), zC, r55a_9)))
         else
          (ladder_Blocks r35).bind fun r69a =>
           if decide (i64.wrap (r55a_8 + (r25_9.length : Int)) < r69a) = true then
            some (((((r55a, r55a_2), r55a_3, (r55a_4, r55a_5), r55a_6, r55a_7), zC, 10)))
           else
            (loopO chains_Save.l3 ((((r55a, r55a_2), r55a_3, (r55a_4, r55a_5), r55a_6, r55a_7, c1, zC, r35), r25_9, (r25_9.length : Int), 0))).bind fun d => match d with
            | .inl ((o1b, o1c), o2, (o3c, o3d), o4, o5, (c4a, c4b, c4c, c4d, c4e, c4f, c4g, c4h, c4i), (t6a, t6b, t6c, t6d, t6e, t6f, t6g, t6h, t6i), rungs11a, rungs11b, rungs11c) =>
             (chains_writer_list ((0, (o1b, o1c), o2, (o3c, o3d), o4, o5), rungs11b)).bind fun ((r94a, (r94a_2, r94a_3), r94a_4, (r94a_5, r94a_6), r94a_7, r94a_8), r94a_9) =>
              ((
               if (rungs11c.isEmpty ^^ true) = true then
                (chains_writer_take (r94a, (r94a_2, r94a_3), r94a_4, (r94a_5, r94a_6), r94a_7, r94a_8)).bind fun ((r102a, (r102a_2, r102a_3), r102a_4, (r102a_5, r102a_6), r102a_7, r102a_8), r102a_9) =>
                 (loopO chains_Save.l4 ((((r102a_2, r102a_3), r102a_4, (r102a_5, r102a_6), r102a_7, r102a_8, (c4a, c4b, c4c, c4d, rungs11a, r94a_9, r102a_9, c4h, c4i), (t6a, t6b, t6c, t6d, t6e, t6f, t6g, t6h, t6i), r102a, []), rungs11c, (rungs11c.length : Int), 0))).bind fun ((o1b, o1c), o2, (o3c, o3d), o4, o5, (c4a, c4b, c4c, c4d, c4e, c4f, c4g, c4h, c4i), (t6a, t6b, t6c, t6d, t6e, t6f, t6g, t6h, t6i), w18, blocks19) =>
                  (chains_writer_put_1 ((w18, (o1b, o1c), o2, (o3c, o3d), o4, o5), c4g, blocks19)).bind fun (r122a, (r122a_2, r122a_3), r122a_4, (r122a_5, r122a_6), r122a_7, r122a_8) =>
                   some ((((r122a_2, r122a_3), r122a_4, (r122a_5, r122a_6), r122a_7, r122a_8, (c4a, c4b, c4c, c4d, c4e, c4f, c4g, c4h, c4i), (t6a, t6b, t6c, t6d, t6e, t6f, t6g, t6h, t6i), r122a)))
               else
                some ((((r94a_2, r94a_3), r94a_4, (r94a_5, r94a_6), r94a_7, r94a_8, (c4a, c4b, c4c, c4d, rungs11a, r94a_9, 0, c4h, c4i), (t6a, t6b, t6c, t6d, t6e, t6f, t6g, t6h, t6i), r94a)))) : Option ((Bool × Int) × (tL) × (Int × Int) × tS × (tL) × tC × tC × Int)).bind fun ((o1b, o1c), o2, (o3c, o3d), o4, o5, (c4a, c4b, c4c, c4d, c4e, c4f, c4g, c4h, c4i), (t6a, t6b, t6c, t6d, t6e, t6f, t6g, t6h, t6i), w18) =>
               if (w18 != 0) = true then
                some (((((o1b, o1c), o2, (o3c, o3d), o4, o5), zC, w18)))
               else
                some (((((o1b, o1c), o2, (o3c, o3d), o4, o5), (c4a, c4b, c4c, c4d, c4e, c4f, c4g, c4h, c4i), 0)))
            | .inr ((((o1b, o1c), o2, (o3c, o3d), o4, o5, t6a, t6b, t6c, t6d, t6e, t6f, t6g, t6h, t6i), t7)) =>
             some (((((o1b, o1c), o2, (o3c, o3d), o4, o5), (t6a, t6b, t6c, t6d, t6e, t6f, t6g, t6h, t6i), t7)))

def chains_Save.c : Callee' := mkC 27 ⟨134, 0, [.box (cr 1 (cr 2 .nil)), .box (cr 3 (cB (cI .nil))), .map I .str, .box (cr 4 (cr 5 (cI (cI .nil)))), .arr .str, .map I .str], [0, 1, 2], (cr 0 (.cons (.v (yC)) (.cons (.v (.sl I)) .nil)))⟩ [⟨135, 6, [.box (cr 1 (cr 2 .nil)), .box (cr 3 (cB (cI .nil))), .map I .str, .box (cr 4 (cr 5 (cI (cI .nil)))), .arr .str, .map I .str], [134, 7], (.cons (.v (yC)) (cI .nil))⟩] chains_Save
def chains_Save.ann : Ann := (.z (.seq (.reg [.std, .std, .call [chains_load_1.c]]) (.seq (.z (.cond (.z .std) .std)) (.seq (.reg [.std, .callq [ladder_Of.c]]) (.seq (.z (.cond (.z .std) .std)) (.seq (.reg [.std, .std, .call [chains_open_2.c]]) (.seq (.seq (.reg [.std, .std, .std, .callq [slices_ContainsFunc_int_int_5.c, slices_ContainsFunc_int_int_2.c]]) (.cond (.z .std) .std)) (.seq (.reg [.std, .call [stock_Free.c]]) (.seq (.block (.z (.cond (.z .std) (.seq (.rq 5 ladder_Blocks.c) (.cond (.z .std) .std))))) (.seq (.z (.block (.loop ⟨134, 6, [.box (cr 1 (cr 2 .nil)), .box (cr 3 (cB (cI .nil))), .map I .str, .box (cr 4 (cr 5 (cI (cI .nil)))), .arr .str, .map I .str, .box (cI (cI (cI (cI (.cons (.v (.sl I)) (cI (cI (.cons (.v (.sl (.st (.pair I (.pair I I))))) (cI .nil))))))))), .box (cI (cI (cI (cI (.cons (.v (.sl I)) (cI (cI (.cons (.v (.sl (.st (.pair I (.pair I I))))) (cI .nil))))))))), .box (.cons (.v (.sl I)) (.cons (.v (.nsl I)) (.cons (.v (.nsl (.nsl I))) .nil)))], [0, 4, 6, 11, 72, 73, 74], (cr 0 (cr 6 (cr 7 (cr 8 (.cons (.v (.sl I)) (cI (cI .nil)))))))⟩ [(.exit 1, ⟨134, 6, [.box (cr 1 (cr 2 .nil)), .box (cr 3 (cB (cI .nil))), .map I .str, .box (cr 4 (cr 5 (cI (cI .nil)))), .arr .str, .map I .str, .box (cI (cI (cI (cI (.cons (.v (.sl I)) (cI (cI (.cons (.v (.sl (.st (.pair I (.pair I I))))) (cI .nil))))))))), .box (cI (cI (cI (cI (.cons (.v (.sl I)) (cI (cI (.cons (.v (.sl (.st (.pair I (.pair I I))))) (cI .nil))))))))), .box (.cons (.v (.sl I)) (.cons (.v (.nsl I)) (.cons (.v (.nsl (.nsl I))) .nil)))], [0, 4, 6, 11], (cr 0 (cr 6 (cr 7 (cr 8 .nil))))⟩), (.ret, ⟨134, 6, [.box (cr 1 (cr 2 .nil)), .box (cr 3 (cB (cI .nil))), .map I .str, .box (cr 4 (cr 5 (cI (cI .nil)))), .arr .str, .map I .str, .box (cI (cI (cI (cI (.cons (.v (.sl I)) (cI (cI (.cons (.v (.sl (.st (.pair I (.pair I I))))) (cI .nil)))))))))], [6, 7], (cr 6 (cI .nil))⟩)]
  (.z (.seq (.cond .std .std) (.seq (.block (.z (.seq (.reg [.std, .std, .call [stock_Drop.c]]) (.z (.cond (.z .std) .std))))) (.reg []))))))) (.z (.seq (.drw [.std, .std, .std, .std, .std, .call [chains_writer_list.c]]) (.join [(.norm, ⟨134, 6, [.box (cr 1 (cr 2 .nil)), .box (cr 3 (cB (cI .nil))), .map I .str, .box (cr 4 (cr 5 (cI (cI .nil)))), .arr .str, .map I .str, .box (cI (cI (cI (cI (.cons (.v (.sl I)) (cI (cI (.cons (.v (.sl (.st (.pair I (.pair I I))))) (cI .nil))))))))), .box (cI (cI (cI (cI (.cons (.v (.sl I)) (cI (cI (.cons (.v (.sl (.st (.pair I (.pair I I))))) (cI .nil))))))))), .box (cr 0 (cI .nil))], [4, 6, 18], (cr 6 (cr 7 (cr 8 .nil)))⟩)]
  (.seq (.reg [.std, .std, .obj .bool]) (.cond (.seq (.reg [.std, .call [chains_writer_take.c]]) (.z (.seq (.z (.block (.loop ⟨134, 6, [.box (cr 1 (cr 2 .nil)), .box (cr 3 (cB (cI .nil))), .map I .str, .box (cr 4 (cr 5 (cI (cI .nil)))), .arr .str, .map I .str, .box (cI (cI (cI (cI (.cons (.v (.sl I)) (cI (cI (.cons (.v (.sl (.st (.pair I (.pair I I))))) (cI .nil))))))))), .box (cI (cI (cI (cI (.cons (.v (.sl I)) (cI (cI (.cons (.v (.sl (.st (.pair I (.pair I I))))) (cI .nil))))))))), .box (cr 0 (cI .nil)), .arr I], [4, 6, 18, 19, 105, 106, 107], (cr 6 (cr 7 (cr 8 (cr 9 (.cons (.v (.nsl (.nsl I))) (cI (cI .nil)))))))⟩ [(.exit 3, ⟨134, 6, [.box (cr 1 (cr 2 .nil)), .box (cr 3 (cB (cI .nil))), .map I .str, .box (cr 4 (cr 5 (cI (cI .nil)))), .arr .str, .map I .str, .box (cI (cI (cI (cI (.cons (.v (.sl I)) (cI (cI (.cons (.v (.sl (.st (.pair I (.pair I I))))) (cI .nil))))))))), .box (cI (cI (cI (cI (.cons (.v (.sl I)) (cI (cI (.cons (.v (.sl (.st (.pair I (.pair I I))))) (cI .nil))))))))), .box (cr 0 (cI .nil)), .arr I], [4, 6, 18, 19], (cr 6 (cr 7 (cr 8 (cr 9 .nil))))⟩)]
  (.z (.seq (.cond .std .std) (.seq (.block (.z (.reg [.std, .std, .std, .call [chains_writer_list.c], .inl I, .obj I]))) (.reg []))))))) (.reg [.std, .std, .std, .std, .call [chains_writer_put_1.c]])))) .std)) (.seq (.z (.cond (.seq (.drw []) .std) .std)) (.z .std)))))))))))))))
theorem chains_Save.s : chains_Save.c.ok Tryz.prog := sdR 134 [(6, 29)] chains_Save.ann (kc chains_load_1.s (kc ladder_Of.s (kc chains_open_2.s (kc slices_ContainsFunc_int_int_5.s (kc slices_ContainsFunc_int_int_2.s (kc stock_Free.s (kc ladder_Blocks.s (kc stock_Drop.s (kc chains_writer_list.s (kc chains_writer_take.s (kc chains_writer_list.s (kc chains_writer_put_1.s kn)))))))))))) (kc ladder_Of.q (kc slices_ContainsFunc_int_int_5.q (kc slices_ContainsFunc_int_int_2.q (kc ladder_Blocks.q kn)))) Tryz.func27

def chains_Load_1 : (((Bool × Int) × (tL) × (Int × Int) × tS × tL) × tC) → Option (((Bool × Int) × (tL) × (Int × Int) × tS × tL) × tI × Int) := fun (((o1b, o1c), o2, (o3c, o3d), o4, o5), c1) =>
 (chains_load_1 (((o1b, o1c), o2, (o3c, o3d), o4, o5), c1)).bind fun (((r12, r12_2), r12_3, (r12_4, r12_5), r12_6, r12_7), r12_8, r12_9, r12_10) =>
  some (((((r12, r12_2), r12_3, (r12_4, r12_5), r12_6, r12_7), r12_8, r12_10)))

def chains_Load_1.c : Callee' := mkC 29 ⟨18, 0, [.box (cr 1 (cr 2 .nil)), .box (cr 3 (cB (cI .nil))), .map I .str, .box (cr 4 (cr 5 (cI (cI .nil)))), .arr .str, .map I .str], [0, 1], (cr 0 (.cons (.v (yC)) .nil))⟩ [⟨18, 6, [.box (cr 1 (cr 2 .nil)), .box (cr 3 (cB (cI .nil))), .map I .str, .box (cr 4 (cr 5 (cI (cI .nil)))), .arr .str, .map I .str], [4, 5], (.cons (.v (.sl I)) (cI .nil))⟩] chains_Load_1
theorem chains_Load_1.s : chains_Load_1.c.ok Tryz.prog := sd 18 (.z (.seq (.reg [.std, .std, .call [chains_load_1.c]]) (.z .std))) (kc chains_load_1.s kn) kn Tryz.func29

def lw14_lives : Unit → Option (Bool) := fun _ =>
 (lw14_begin 100).bind fun d => match d with
 | .inl _ =>
  some false
 | .inr (((r6b, r6_2b), r6_3b, (r6_4b, r6_5b), r6_6b, r6_7b)) =>
  (lw14_fresh ()).bind fun r11 =>
   (chains_Save (((r6b, r6_2b), r6_3b, (r6_4b, r6_5b), r6_6b, r6_7b), r11, ([60, 0, 61, 0, 0, 62] : tI))).bind fun (((r13, r13_2), r13_3, (r13_4, r13_5), r13_6, r13_7), r13_8, r13_9) =>
    (chains_Load_1 (((r13, r13_2), r13_3, (r13_4, r13_5), r13_6, r13_7), r13_8)).bind fun (((r19, r19_2), r19_3, (r19_4, r19_5), r19_6, r19_7), r19_8, r19_9) =>
     if (r13_9 == 0) = true then
      if (r19_9 == 0) = true then
       if ((r19_8.length : Int) == 76) = true then
        if 0 ≤ (0 : Int) ∧ (0 : Int) < (r19_8.length : Int) then
         if (r19_8.getD 0 0 == 60) = true then
          if 0 ≤ (2 : Int) ∧ (2 : Int) < (r19_8.length : Int) then
           if (r19_8.getD 2 0 == 61) = true then
            if 0 ≤ (5 : Int) ∧ (5 : Int) < (r19_8.length : Int) then
             if (r19_8.getD 5 0 == 62) = true then
              some (((r13_8.2.2.2.2.2.1 == 51)))
             else
              some false
            else none
           else
            some false
          else none
         else
          some false
        else none
       else
        some false
      else
       some false
     else
      some false

def lw14_lives.c : Callee' := mkC 24 ⟨56, 0, [], [], .nil⟩ [⟨56, 0, [], [0], (cB .nil)⟩] lw14_lives
theorem lw14_lives.q : FunQuiet lw14_lives.c.F := mkFun_quiet rfl rfl
theorem lw14_lives.s : lw14_lives.c.ok Tryz.prog := sd 56 (.z (.seq (.reg [.call [lw14_begin.c]]) (.seq (.seq (.reg [.std, .obj .bool]) (.cond (.z .std) .std)) (.seq (.reg [.std, .callq [lw14_fresh.c], .inl I, .call [chains_Save.c]]) (.seq (.reg [.std, .std, .call [chains_Load_1.c]]) (.z .std)))))) (kc lw14_begin.s (kc lw14_fresh.s (kc chains_Save.s (kc chains_Load_1.s kn)))) (kc lw14_fresh.q kn) Tryz.func24

def chains_Lists_1 : (((Bool × Int) × (tL) × (Int × Int) × tS × tL) × tC) → Option (((Bool × Int) × (tL) × (Int × Int) × tS × tL) × tI × Int) := fun (((o1b, o1c), o2, (o3c, o3d), o4, o5), c1) =>
 (chains_load_1 (((o1b, o1c), o2, (o3c, o3d), o4, o5), c1)).bind fun (((r12, r12_2), r12_3, (r12_4, r12_5), r12_6, r12_7), r12_8, r12_9, r12_10) =>
  some (((((r12, r12_2), r12_3, (r12_4, r12_5), r12_6, r12_7), r12_9, r12_10)))

def chains_Lists_1.c : Callee' := mkC 31 ⟨18, 0, [.box (cr 1 (cr 2 .nil)), .box (cr 3 (cB (cI .nil))), .map I .str, .box (cr 4 (cr 5 (cI (cI .nil)))), .arr .str, .map I .str], [0, 1], (cr 0 (.cons (.v (yC)) .nil))⟩ [⟨18, 6, [.box (cr 1 (cr 2 .nil)), .box (cr 3 (cB (cI .nil))), .map I .str, .box (cr 4 (cr 5 (cI (cI .nil)))), .arr .str, .map I .str], [4, 5], (.cons (.v (.sl I)) (cI .nil))⟩] chains_Lists_1
theorem chains_Lists_1.s : chains_Lists_1.c.ok Tryz.prog := sd 18 (.z (.seq (.reg [.std, .std, .call [chains_load_1.c]]) (.z .std))) (kc chains_load_1.s kn) kn Tryz.func31

def lw14_ChainsOdd.l1 : ((tC × (Bool × Int) × (tL) × (Int × Int) × tS × tL) × tS × Int) → Option (((tC × (Bool × Int) × (tL) × (Int × Int) × tS × tL) × tS × Int) ⊕ (tC × (Bool × Int) × (tL) × (Int × Int) × tS × tL)) := fun (((c2a, c2b, c2c, c2d, c2e, c2f, c2g, c2h, c2i), (o2b, o2c), o3, (o4c, o4d), o5, o6), blocks1, i6) =>
 if decide (i6 < (blocks1.length : Int)) = true then
  if decide (i6 < 49) = true then
   if 0 ≤ i6 ∧ i6 < (blocks1.length : Int) then
    (deal_Deal_Write_1 (((o2b, o2c), o3, (o4c, o4d), o5, o6), i64.wrap (51 + i6), blocks1.getD i6.toNat [])).bind fun (((r34, r34_2), r34_3, (r34_4, r34_5), r34_6, r34_7), r34_8) =>
     some (.inl ((((c2a, c2b, c2c, c2d, c2e, c2f, c2g, c2h, c2i), (r34, r34_2), r34_3, (r34_4, r34_5), r34_6, r34_7), blocks1, i64.wrap (i6 + 1))))
   else none
  else
   some (.inr ((((c2a, c2b, c2c, c2d, c2e, c2f, c2g, c2h, c2i), (o2b, o2c), o3, (o4c, o4d), o5, o6))))
 else
  some (.inr ((((c2a, c2b, c2c, c2d, c2e, c2f, c2g, c2h, c2i), (o2b, o2c), o3, (o4c, o4d), o5, o6))))

def lw14_ChainsOdd.l2 : (tC × tI × tI × Int × Int) → Option ((tC × tI × tI × Int × Int) ⊕ ((tC × tI × tI × Int) ⊕ Bool)) := fun ((c2a, c2b, c2c, c2d, c2e, c2f, c2g, c2h, c2i), m7, l9, f10, i11) =>
 if decide (i11 < (m7.length : Int)) = true then
  if 0 ≤ i11 ∧ i11 < (m7.length : Int) then
   if (m7.getD i11.toNat 0 != 0) = true then
    if 0 ≤ i11 ∧ i11 < (m7.length : Int) then
     if decide (m7.getD i11.toNat 0 < 51) = false then
      if 0 ≤ i11 ∧ i11 < (m7.length : Int) then
       if decide (m7.getD i11.toNat 0 ≥ 100) = true then
        some (.inr (.inr false))
       else
        some (.inl (((c2a, c2b, c2c, c2d, c2e, c2f, c2g, c2h, c2i), m7, l9, f10, i64.wrap (i11 + 1))))
      else none
     else
      some (.inr (.inr false))
    else none
   else
    some (.inl (((c2a, c2b, c2c, c2d, c2e, c2f, c2g, c2h, c2i), m7, l9, f10, i64.wrap (i11 + 1))))
  else none
 else
  some (.inr (.inl (((c2a, c2b, c2c, c2d, c2e, c2f, c2g, c2h, c2i), m7, l9, f10))))

def lw14_ChainsOdd : (tC × tS) → Option (Bool) := fun (c0, blocks1) =>
 (lw14_lives ()).bind fun r12 =>
  if (!r12) = true then
   some false
  else
   (lw14_begin 100).bind fun d => match d with
   | .inl _ =>
    some false
   | .inr (((r14b, r14_2b), r14_3b, (r14_4b, r14_5b), r14_6b, r14_7b)) =>
    (loopO lw14_ChainsOdd.l1 (((c0, (r14b, r14_2b), r14_3b, (r14_4b, r14_5b), r14_6b, r14_7b), blocks1, 0))).bind fun ((c2a, c2b, c2c, c2d, c2e, c2f, c2g, c2h, c2i), (o2b, o2c), o3, (o4c, o4d), o5, o6) =>
     (chains_Load_1 (((o2b, o2c), o3, (o4c, o4d), o5, o6), c2a, c2b, c2c, c2d, c2e, c2f, c2g, c2h, c2i)).bind fun (((r38, r38_2), r38_3, (r38_4, r38_5), r38_6, r38_7), r38_8, r38_9) =>
      (chains_Lists_1 (((r38, r38_2), r38_3, (r38_4, r38_5), r38_6, r38_7), c2a, c2b, c2c, c2d, c2e, c2f, c2g, c2h, c2i)).bind fun (((r44, r44_2), r44_3, (r44_4, r44_5), r44_6, r44_7), r44_8, r44_9) =>
       if (r38_9 != 0) = true then
        if ((r38_8.length : Int) == 0) = true then
         if (r38_9 == 15) = false then
          if (r38_9 == 1) = true then
           if (r44_9 != 0) = true then
            some ((((r44_8.length : Int) == 0)))
           else
            some false
          else
           some false
         else
          if (r44_9 != 0) = true then
           some ((((r44_8.length : Int) == 0)))
          else
           some false
        else
         some false
       else
        (loopO lw14_ChainsOdd.l2 (((c2a, c2b, c2c, c2d, c2e, c2f, c2g, c2h, c2i), r38_8, r44_8, r44_9, 0))).bind fun d => match d with
        | .inl ((c2a, c2b, c2c, c2d, c2e, c2f, c2g, c2h, c2i), m7, l9, f10) =>
         if ((m7.length : Int) == 76) = true then
          if (f10 == 0) = true then
           if decide ((l9.length : Int) ≤ 60) = true then
            (rf09_Right (c2a, c2b, c2c, c2d, c2e, c2f, c2g, c2h, c2i)).bind fun r108 =>
             some r108
           else
            some false
          else
           some false
         else
          some false
        | .inr t4 =>
         some t4

def lw14_ChainsOdd.ins : Spec := ⟨110, 0, [], [0, 1], (.cons (.v (.st (.pair I (.pair I (.pair I (.pair I (.pair (.sl I) (.pair I (.pair I (.pair (.sl (.st (.pair I (.pair I I)))) I)))))))))) (.cons (.v (.sl .str)) .nil))⟩
def lw14_ChainsOdd.outs : List Spec := [⟨110, 0, [], [4], (.cons (.v .bool) .nil)⟩]
def lw14_ChainsOdd.c : Callee' := mkC 7 lw14_ChainsOdd.ins lw14_ChainsOdd.outs lw14_ChainsOdd
theorem lw14_ChainsOdd.quiet : FunQuiet lw14_ChainsOdd.c.F := mkFun_quiet rfl rfl
def lw14_ChainsOdd.ann : Ann :=
  (.z (.seq (.seq (.reg [.callq [lw14_lives.c]]) (.cond (.z .std) .std)) (.seq (.reg [.call [lw14_begin.c]]) (.seq (.seq (.reg [.std, .obj .bool]) (.cond (.z .std) .std)) (.seq (.z (.block (.loop ⟨110, 0, [.box (cI (cI (cI (cI (.cons (.v (.sl I)) (cI (cI (.cons (.v (.sl (.st (.pair I (.pair I I))))) (cI .nil))))))))), .box (cr 2 (cr 3 .nil)), .box (cr 4 (cB (cI .nil))), .map I .str, .box (cr 5 (cr 6 (cI (cI .nil)))), .arr .str, .map I .str], [1, 2, 5, 6], (.cons (.v (.sl .str)) (cr 0 (cr 1 (cI .nil))))⟩ [(.exit 0, ⟨110, 0, [.box (cI (cI (cI (cI (.cons (.v (.sl I)) (cI (cI (.cons (.v (.sl (.st (.pair I (.pair I I))))) (cI .nil))))))))), .box (cr 2 (cr 3 .nil)), .box (cr 4 (cB (cI .nil))), .map I .str, .box (cr 5 (cr 6 (cI (cI .nil)))), .arr .str, .map I .str], [2, 5], (cr 0 (cr 1 .nil))⟩)]
  (.seq (.z (.cond .std .std)) (.seq (.block (.reg [.std, .std, .std, .std, .std, .std, .std, .call [deal_Deal_Write_1.c]])) (.reg [])))))) (.seq (.reg [.std, .std, .call [chains_Load_1.c]]) (.seq (.reg [.std, .std, .call [chains_Lists_1.c]]) (.seq (.z (.cond (.z .std) .std)) (.seq (.z (.block (.loop ⟨110, 0, [.box (cI (cI (cI (cI (.cons (.v (.sl I)) (cI (cI (.cons (.v (.sl (.st (.pair I (.pair I I))))) (cI .nil)))))))))], [2, 7, 9, 10, 11], (cr 0 (.cons (.v (.sl I)) (.cons (.v (.sl I)) (cI (cI .nil)))))⟩ [(.exit 2, ⟨110, 0, [.box (cI (cI (cI (cI (.cons (.v (.sl I)) (cI (cI (.cons (.v (.sl (.st (.pair I (.pair I I))))) (cI .nil)))))))))], [2, 7, 9, 10], (cr 0 (.cons (.v (.sl I)) (.cons (.v (.sl I)) (cI .nil))))⟩), (.ret, ⟨110, 0, [], [4], (cB .nil)⟩)]
  (.seq (.z (.cond .std .std)) (.seq (.block (.z (.cond (.z .std) .std))) (.reg [])))))) (.seq (.rq 14 rf09_Right.c) .std))))))))))
theorem lw14_ChainsOdd.eq : absFn tt 110 lw14_ChainsOdd.ins lw14_ChainsOdd.outs (bodyOf Tryz.f7) lw14_ChainsOdd.ann = lw14_ChainsOdd := by
  funext a
  kernel_rfl
theorem lw14_ChainsOdd.ok : lw14_ChainsOdd.ann.ok Tryz.prog 0 110 :=
  ann_ok (by kernel_rfl) (by kernel_rfl) (cs_cons lw14_lives.s (cs_cons lw14_begin.s (cs_cons deal_Deal_Write_1.s (cs_cons chains_Load_1.s (cs_cons chains_Lists_1.s (cs_cons rf09_Right.s cs_nil)))))) (cs_cons lw14_lives.q (cs_cons rf09_Right.q cs_nil))
theorem lw14_ChainsOdd.sound : lw14_ChainsOdd.c.ok Tryz.prog := snd tt_ok mix_ok lw14_ChainsOdd.eq lw14_ChainsOdd.ok Tryz.func7 rfl rfl (by kernel_rfl) (by kernel_rfl) (by decide) (by decide)

def lw14_inside.l1 : (tI × tI × Int × Int) → Option ((tI × tI × Int × Int) ⊕ tI) := fun (out5, m0, n1, i6) =>
 if decide (i6 < (m0.length : Int)) = true then
  if decide (i6 < 200) = true then
   if 0 ≤ i6 ∧ i6 < (m0.length : Int) then
    if (m0.getD i6.toNat 0 != 0) = true then
     if 0 ≤ i6 ∧ i6 < (m0.length : Int) then
      if u64.wrap (i64.wrap (n1 - 51)) = 0 then none else
      if roomOk (out5.length + (([i64.wrap (51 + (i64.wrap (Int.tmod (u64.wrap (m0.getD i6.toNat 0)) (u64.wrap (i64.wrap (n1 - 51))))))] : tI)).length) 8 then
       some (.inl ((out5 ++ (([i64.wrap (51 + (i64.wrap (Int.tmod (u64.wrap (m0.getD i6.toNat 0)) (u64.wrap (i64.wrap (n1 - 51))))))] : tI)), m0, n1, i64.wrap (i6 + 1))))
      else none
     else none
    else
     if roomOk (out5.length + (([0] : tI)).length) 8 then
      some (.inl ((out5 ++ (([0] : tI)), m0, n1, i64.wrap (i6 + 1))))
     else none
   else none
  else
   some (.inr out5)
 else
  some (.inr out5)

def lw14_inside : (tI × Int) → Option tI := fun (m0, n1) =>
 (loopO lw14_inside.l1 (([], m0, n1, 0))).bind fun out5 =>
  some out5

def lw14_inside.c : Callee' := mkC 28 ⟨39, 0, [], [0, 1], (.cons (.v (.sl I)) (cI .nil))⟩ [⟨39, 0, [], [4], (.cons (.v (.sl I)) .nil)⟩] lw14_inside
theorem lw14_inside.q : FunQuiet lw14_inside.c.F := mkFun_quiet rfl rfl
theorem lw14_inside.s : lw14_inside.c.ok Tryz.prog := sd 39 (.z (.z (.seq (.z (.block (.loop ⟨39, 0, [.arr I], [0, 1, 5, 6], (.cons (.v (.sl I)) (cI (cr 0 (cI .nil))))⟩ [(.exit 0, ⟨39, 0, [.arr I], [5], (cr 0 .nil)⟩)]
  (.seq (.z (.cond .std .std)) (.seq (.block (.z (.seq (.z (.cond (.reg []) .std)) (.reg [.std, .std, .inl I, .obj I])))) (.reg [])))))) (.z .std)))) kn kn Tryz.func28

def chains_Drop : (((Bool × Int) × (tL) × (Int × Int) × tS × tL) × tC) → Option (((Bool × Int) × (tL) × (Int × Int) × tS × tL) × tC × Int) := fun (((o1b, o1c), o2, (o3c, o3d), o4, o5), c1) =>
 (chains_Save (((o1b, o1c), o2, (o3c, o3d), o4, o5), c1, ([] : tI))).bind fun (((r8, r8_2), r8_3, (r8_4, r8_5), r8_6, r8_7), r8_8, r8_9) =>
  some (((((r8, r8_2), r8_3, (r8_4, r8_5), r8_6, r8_7), r8_8, r8_9)))

def chains_Drop.c : Callee' := mkC 32 ⟨11, 0, [.box (cr 1 (cr 2 .nil)), .box (cr 3 (cB (cI .nil))), .map I .str, .box (cr 4 (cr 5 (cI (cI .nil)))), .arr .str, .map I .str], [0, 1], (cr 0 (.cons (.v (yC)) .nil))⟩ [⟨12, 6, [.box (cr 1 (cr 2 .nil)), .box (cr 3 (cB (cI .nil))), .map I .str, .box (cr 4 (cr 5 (cI (cI .nil)))), .arr .str, .map I .str], [11, 5], (.cons (.v (yC)) (cI .nil))⟩] chains_Drop
theorem chains_Drop.s : chains_Drop.c.ok Tryz.prog := sdR 11 [(4, 29)] (.z (.seq (.reg [.std, .std, .call [chains_Save.c]]) .std)) (kc chains_Save.s kn) kn Tryz.func32

def lw14_ChainsDrop : (tI × tI) → Option (Bool) := fun (m0, more1) =>
 (lw14_lives ()).bind fun r18 =>
  if (!r18) = true then
   some false
  else
   (lw14_begin 400).bind fun d => match d with
   | .inl _ =>
    some false
   | .inr (((r20b, r20_2b), r20_3b, (r20_4b, r20_5b), r20_6b, r20_7b)) =>
    (lw14_fresh ()).bind fun r25 =>
     (lw14_inside (m0, 400)).bind fun r27 =>
      (chains_Save (((r20b, r20_2b), r20_3b, (r20_4b, r20_5b), r20_6b, r20_7b), r25, r27)).bind fun (((r28, r28_2), r28_3, (r28_4, r28_5), r28_6, r28_7), r28_8, r28_9) =>
       if (r28_9 != 0) = true then
        some (((r28_9 == 12)))
       else
        (lw14_inside (more1, 400)).bind fun r39 =>
         (chains_Save (((r28, r28_2), r28_3, (r28_4, r28_5), r28_6, r28_7), r28_8, r39)).bind fun (((r40, r40_2), r40_3, (r40_4, r40_5), r40_6, r40_7), r40_8, r40_9) =>
          ((
           if (r40_9 != 0) = true then
            some (((r28_8, r28_8, (r40, r40_2), r40_3, (r40_4, r40_5), r40_6, r40_7)))
           else
            some (((r28_8, r40_8, (r40, r40_2), r40_3, (r40_4, r40_5), r40_6, r40_7)))) : Option (tC × tC × (Bool × Int) × (tL) × (Int × Int) × tS × tL)).bind fun ((c6a, c6b, c6c, c6d, c6e, c6f, c6g, c6h, c6i), (x8a, x8b, x8c, x8d, x8e, x8f, x8g, x8h, x8i), (o3b, o3c), o4, (o5c, o5d), o6, o7) =>
           (chains_Drop (((o3b, o3c), o4, (o5c, o5d), o6, o7), x8a, x8b, x8c, x8d, x8e, x8f, x8g, x8h, x8i)).bind fun (((r49, r49_2), r49_3, (r49_4, r49_5), r49_6, r49_7), r49_8, r49_9) =>
            (stock_Free ((r49, r49_2), r49_3, (r49_4, r49_5), r49_6, r49_7)).bind fun (((r54, r54_2), r54_3, (r54_4, r54_5), r54_6, r54_7), r54_8, r54_9) =>
             (chains_Lists_1 (((r54, r54_2), r54_3, (r54_4, r54_5), r54_6, r54_7), r49_8)).bind fun (((r60, r60_2), r60_3, (r60_4, r60_5), r60_6, r60_7), r60_8, r60_9) =>
              (chains_Load_1 (((r60, r60_2), r60_3, (r60_4, r60_5), r60_6, r60_7), r49_8)).bind fun (((r66, r66_2), r66_3, (r66_4, r66_5), r66_6, r66_7), r66_8, r66_9) =>
               if (r49_9 == 0) = true then
                if (r54_9 == 0) = true then
                 if (r54_8 == 349) = true then
                  if (r60_9 == 0) = true then
                   if ((r60_8.length : Int) == 0) = true then
                    if (r66_9 == 0) = true then
                     if 0 ≤ (76 : Int) ∧ (76 : Int) ≤ (76 : Int) ∧ (76 : Int) * (8 : Nat) ≤ 140737488355328 ∧ (76 : Int) ≤ 9223372036854775807 then
                      (rf01_Same (r66_8, List.replicate 76 (0 : Int))).bind fun r95 =>
                       if r95 = true then
                        if (r49_8.2.2.1 == c6c) = true then
                         some (((r49_8.2.2.2.1 == c6d)))
                        else
                         some false
                       else
                        some false
                     else none
                    else
                     some false
                   else
                    some false
                  else
                   some false
                 else
                  some false
                else
                 some false
               else
                some false

def lw14_ChainsDrop.ins : Spec := ⟨111, 0, [], [0, 1], (.cons (.v (.sl I)) (.cons (.v (.sl I)) .nil))⟩
def lw14_ChainsDrop.outs : List Spec := [⟨111, 0, [], [4], (.cons (.v .bool) .nil)⟩]
def lw14_ChainsDrop.c : Callee' := mkC 8 lw14_ChainsDrop.ins lw14_ChainsDrop.outs lw14_ChainsDrop
theorem lw14_ChainsDrop.quiet : FunQuiet lw14_ChainsDrop.c.F := mkFun_quiet rfl rfl
def lw14_ChainsDrop.ann : Ann :=
  (.z (.seq (.seq (.reg [.callq [lw14_lives.c]]) (.cond (.z .std) .std)) (.seq (.reg [.call [lw14_begin.c]]) (.seq (.seq (.reg [.std, .obj .bool]) (.cond (.z .std) .std)) (.seq (.reg [.std, .callq [lw14_fresh.c], .std, .callq [lw14_inside.c], .call [chains_Save.c]]) (.seq (.z (.cond (.z .std) .std)) (.seq (.drw [.std, .std, .std, .call [lw14_inside.c], .call [chains_Save.c]]) (.join [(.norm, ⟨111, 0, [.box (cr 3 (cr 4 .nil)), .box (cI (cI (cI (cI (.cons (.v (.sl I)) (cI (cI (.cons (.v (.sl (.st (.pair I (.pair I I))))) (cI .nil))))))))), .box (cI (cI (cI (cI (.cons (.v (.sl I)) (cI (cI (.cons (.v (.sl (.st (.pair I (.pair I I))))) (cI .nil))))))))), .box (cr 5 (cB (cI .nil))), .map I .str, .box (cr 6 (cr 7 (cI (cI .nil)))), .arr .str, .map I .str], [5, 6, 8], (cr 0 (cr 1 (cr 2 .nil)))⟩)]
  (.z (.cond (.reg []) .std)) (.seq (.reg [.std, .std, .call [chains_Drop.c]]) (.seq (.reg [.std, .call [stock_Free.c]]) (.seq (.reg [.std, .std, .call [chains_Lists_1.c]]) (.seq (.reg [.std, .std, .call [chains_Load_1.c]]) (.seq (.reg [.std, .std, .std, .std, .std, .std, .std, .std, .std, .std, .std, .std, .std, .std, .std, .std, .std, .std, .std, .std, .std, .std, .std, .std, .std, .obj I, .callq [rf01_Same.c]]) .std)))))))))))))
theorem lw14_ChainsDrop.eq : absFn tt 111 lw14_ChainsDrop.ins lw14_ChainsDrop.outs (bodyOf Tryz.f8) lw14_ChainsDrop.ann = lw14_ChainsDrop := by
  funext a
  kernel_rfl
theorem lw14_ChainsDrop.ok : lw14_ChainsDrop.ann.ok Tryz.prog 0 111 :=
  ann_ok (by kernel_rfl) (by kernel_rfl) (cs_cons lw14_lives.s (cs_cons lw14_begin.s (cs_cons lw14_fresh.s (cs_cons lw14_inside.s (cs_cons chains_Save.s (cs_cons lw14_inside.s (cs_cons chains_Save.s (cs_cons chains_Drop.s (cs_cons stock_Free.s (cs_cons chains_Lists_1.s (cs_cons chains_Load_1.s (cs_cons rf01_Same.s cs_nil)))))))))))) (cs_cons lw14_lives.q (cs_cons lw14_fresh.q (cs_cons lw14_inside.q (cs_cons rf01_Same.q cs_nil))))
theorem lw14_ChainsDrop.sound : lw14_ChainsDrop.c.ok Tryz.prog := snd tt_ok mix_ok lw14_ChainsDrop.eq lw14_ChainsDrop.ok Tryz.func8 rfl rfl (by kernel_rfl) (by kernel_rfl) (by decide) (by decide)

def lw14_wide.l1 : (tI × tI × Int) → Option ((tI × tI × Int) ⊕ tI) := fun (out3, m0, i4) =>
 if decide (i4 < (m0.length : Int)) = true then
  if decide (i4 < (out3.length : Int)) = true then
   if 0 ≤ i4 ∧ i4 < (m0.length : Int) then
    if 0 ≤ i4 ∧ i4 < (out3.length : Int) then
     some (.inl ((out3.set i4.toNat (m0.getD i4.toNat 0), m0, i64.wrap (i4 + 1))))
    else none
   else none
  else
   some (.inr out3)
 else
  some (.inr out3)

def lw14_wide : tI → Option tI := fun m0 =>
 if 0 ≤ (76 : Int) ∧ (76 : Int) ≤ (76 : Int) ∧ (76 : Int) * (8 : Nat) ≤ 140737488355328 ∧ (76 : Int) ≤ 9223372036854775807 then
  (loopO lw14_wide.l1 ((List.replicate 76 (0 : Int), m0, 0))).bind fun out3 =>
   some out3
 else none

def lw14_wide.c : Callee' := mkC 30 ⟨26, 0, [], [0], (.cons (.v (.sl I)) .nil)⟩ [⟨26, 0, [], [2], (.cons (.v (.sl I)) .nil)⟩] lw14_wide
theorem lw14_wide.q : FunQuiet lw14_wide.c.F := mkFun_quiet rfl rfl
theorem lw14_wide.s : lw14_wide.c.ok Tryz.prog := sd 26 (.z (.seq (.reg [.obj I]) (.seq (.z (.block (.loop ⟨26, 0, [.arr I], [0, 3, 4], (.cons (.v (.sl I)) (cr 0 (cI .nil)))⟩ [(.exit 0, ⟨26, 0, [.arr I], [3], (cr 0 .nil)⟩)]
  (.seq (.z (.cond .std .std)) (.seq (.block (.reg [])) (.reg [])))))) (.z .std)))) kn kn Tryz.func30

def lw14_ChainsApart.l1 : ((tC × tC × (Bool × Int) × (tL) × (Int × Int) × tS × tL) × List (tI) × List (tI) × tI × tI × Int) → Option (((tC × tC × (Bool × Int) × (tL) × (Int × Int) × tS × tL) × List (tI) × List (tI) × tI × tI × Int) ⊕ (Unit ⊕ Bool)) := fun (((x6a, x6b, x6c, x6d, x6e, x6f, x6g, x6h, x6i), (y7a, y7b, y7c, y7d, y7e, y7f, y7g, y7h, y7i), (o3b, o3c), o4, (o5c, o5d), o6, o7), a0, b1, ma8, mb9, i10) =>
 ((
  if decide (i10 < 8) = true then
   if decide (i10 < (a0.length : Int)) = false then
    if decide (i10 < (b1.length : Int)) = true then
     some (.inr (((((x6a, x6b, x6c, x6d, x6e, x6f, x6g, x6h, x6i), (y7a, y7b, y7c, y7d, y7e, y7f, y7g, y7h, y7i), (o3b, o3c), o4, (o5c, o5d), o6, o7), a0, b1, ma8, mb9, i10))))
    else
     some (.inl ())
   else
    some (.inr (((((x6a, x6b, x6c, x6d, x6e, x6f, x6g, x6h, x6i), (y7a, y7b, y7c, y7d, y7e, y7f, y7g, y7h, y7i), (o3b, o3c), o4, (o5c, o5d), o6, o7), a0, b1, ma8, mb9, i10))))
  else
   some (.inl ())) : Option (Unit ⊕ ((tC × tC × (Bool × Int) × (tL) × (Int × Int) × tS × tL) × List (tI) × List (tI) × tI × tI × Int))).bind fun d => match d with
 | .inl _ =>
  some (.inr (.inl ()))
 | .inr ((((x6a, x6b, x6c, x6d, x6e, x6f, x6g, x6h, x6i), (y7a, y7b, y7c, y7d, y7e, y7f, y7g, y7h, y7i), (o3b, o3c), o4, (o5c, o5d), o6, o7), a0, b1, ma8, mb9, i10)) =>
  ((
   if decide (i10 < (a0.length : Int)) = true then
    if 0 ≤ i10 ∧ i10 < (a0.length : Int) then
     (lw14_inside (a0.getD i10.toNat [], 400)).bind fun r53 =>
      (chains_Save (((o3b, o3c), o4, (o5c, o5d), o6, o7), (x6a, x6b, x6c, x6d, x6e, x6f, x6g, x6h, x6i), r53)).bind fun (((r54, r54_2), r54_3, (r54_4, r54_5), r54_6, r54_7), r54_8, r54_9) =>
       if (r54_9 == 0) = true then
        if 0 ≤ i10 ∧ i10 < (a0.length : Int) then
         (lw14_inside (a0.getD i10.toNat [], 400)).bind fun r64 =>
          some ((((r54_8, (y7a, y7b, y7c, y7d, y7e, y7f, y7g, y7h, y7i), (r54, r54_2), r54_3, (r54_4, r54_5), r54_6, r54_7), a0, b1, r64, mb9, i10)))
        else none
       else
        some (((((x6a, x6b, x6c, x6d, x6e, x6f, x6g, x6h, x6i), (y7a, y7b, y7c, y7d, y7e, y7f, y7g, y7h, y7i), (r54, r54_2), r54_3, (r54_4, r54_5), r54_6, r54_7), a0, b1, ma8, mb9, i10)))
    else none
   else
    some (((((x6a, x6b, x6c, x6d, x6e, x6f, x6g, x6h, x6i), (y7a, y7b, y7c, y7d, y7e, y7f, y7g, y7h, y7i), (o3b, o3c), o4, (o5c, o5d), o6, o7), a0, b1, ma8, mb9, i10)))) : Option ((tC × tC × (Bool × Int) × (tL) × (Int × Int) × tS × tL) × List (tI) × List (tI) × tI × tI × Int)).bind fun (((x6a, x6b, x6c, x6d, x6e, x6f, x6g, x6h, x6i), (y7a, y7b, y7c, y7d, y7e, y7f, y7g, y7h, y7i), (o3b, o3c), o4, (o5c, o5d), o6, o7), a0, b1, ma8, mb9, i10) =>
   ((
    if decide (i10 < (b1.length : Int)) = true then
     if 0 ≤ i10 ∧ i10 < (b1.length : Int) then
      (lw14_inside (b1.getD i10.toNat [], 400)).bind fun r76 =>
       (chains_Save (((o3b, o3c), o4, (o5c, o5d), o6, o7), (y7a, y7b, y7c, y7d, y7e, y7f, y7g, y7h, y7i), r76)).bind fun (((r77, r77_2), r77_3, (r77_4, r77_5), r77_6, r77_7), r77_8, r77_9) =>
        if (r77_9 == 0) = true then
         if 0 ≤ i10 ∧ i10 < (b1.length : Int) then
          (lw14_inside (b1.getD i10.toNat [], 400)).bind fun r87 =>
           some (((((x6a, x6b, x6c, x6d, x6e, x6f, x6g, x6h, x6i), r77_8, (r77, r77_2), r77_3, (r77_4, r77_5), r77_6, r77_7), a0, b1, ma8, r87, i10)))
         else none
        else
         some (((((x6a, x6b, x6c, x6d, x6e, x6f, x6g, x6h, x6i), (y7a, y7b, y7c, y7d, y7e, y7f, y7g, y7h, y7i), (r77, r77_2), r77_3, (r77_4, r77_5), r77_6, r77_7), a0, b1, ma8, mb9, i10)))
     else none
    else
     some (((((x6a, x6b, x6c, x6d, x6e, x6f, x6g, x6h, x6i), (y7a, y7b, y7c, y7d, y7e, y7f, y7g, y7h, y7i), (o3b, o3c), o4, (o5c, o5d), o6, o7), a0, b1, ma8, mb9, i10)))) : Option ((tC × tC × (Bool × Int) × (tL) × (Int × Int) × tS × tL) × List (tI) × List (tI) × tI × tI × Int)).bind fun (((x6a, x6b, x6c, x6d, x6e, x6f, x6g, x6h, x6i), (y7a, y7b, y7c, y7d, y7e, y7f, y7g, y7h, y7i), (o3b, o3c), o4, (o5c, o5d), o6, o7), a0, b1, ma8, mb9, i10) =>
    (chains_Load_1 (((o3b, o3c), o4, (o5c, o5d), o6, o7), x6a, x6b, x6c, x6d, x6e, x6f, x6g, x6h, x6i)).bind fun (((r91, r91_2), r91_3, (r91_4, r91_5), r91_6, r91_7), r91_8, r91_9) =>
     (chains_Load_1 (((r91, r91_2), r91_3, (r91_4, r91_5), r91_6, r91_7), y7a, y7b, y7c, y7d, y7e, y7f, y7g, y7h, y7i)).bind fun (((r97, r97_2), r97_3, (r97_4, r97_5), r97_6, r97_7), r97_8, r97_9) =>
      if (r91_9 != 0) = false then
       if (r97_9 != 0) = false then
        (lw14_wide ma8).bind fun r109 =>
         (rf01_Same (r91_8, r109)).bind fun r110 =>
          if (!r110) = false then
           (lw14_wide mb9).bind fun r116 =>
            (rf01_Same (r97_8, r116)).bind fun r117 =>
             if (!r117) = true then
              some (.inr (.inr false))
             else
              some (.inl ((((x6a, x6b, x6c, x6d, x6e, x6f, x6g, x6h, x6i), (y7a, y7b, y7c, y7d, y7e, y7f, y7g, y7h, y7i), (r97, r97_2), r97_3, (r97_4, r97_5), r97_6, r97_7), a0, b1, ma8, mb9, i64.wrap (i10 + 1))))
          else
           some (.inr (.inr false))
       else
        some (.inr (.inr false))
      else
       some (.inr (.inr false))

def lw14_ChainsApart : (List (tI) × List tI) → Option (Bool) := fun (a0, b1) =>
 (lw14_lives ()).bind fun r19 =>
  if (!r19) = true then
   some false
  else
   (lw14_begin 400).bind fun d => match d with
   | .inl _ =>
    some false
   | .inr (((r21b, r21_2b), r21_3b, (r21_4b, r21_5b), r21_6b, r21_7b)) =>
    (lw14_fresh ()).bind fun r24 =>
     (lw14_fresh ()).bind fun r25 =>
      (loopO lw14_ChainsApart.l1 (((r24, r25, (r21b, r21_2b), r21_3b, (r21_4b, r21_5b), r21_6b, r21_7b), a0, b1, ([] : tI), ([] : tI), 0))).bind fun d => match d with
      | .inl _ =>
       some true
      | .inr t4 =>
       some t4

def lw14_ChainsApart.ins : Spec := ⟨120, 0, [], [0, 1], (.cons (.v (.sl (.sl I))) (.cons (.v (.sl (.sl I))) .nil))⟩
def lw14_ChainsApart.outs : List Spec := [⟨120, 0, [], [4], (.cons (.v .bool) .nil)⟩]
def lw14_ChainsApart.c : Callee' := mkC 6 lw14_ChainsApart.ins lw14_ChainsApart.outs lw14_ChainsApart
theorem lw14_ChainsApart.quiet : FunQuiet lw14_ChainsApart.c.F := mkFun_quiet rfl rfl
def lw14_ChainsApart.ann : Ann :=
  (.z (.seq (.seq (.reg [.callq [lw14_lives.c]]) (.cond (.z .std) .std)) (.seq (.reg [.call [lw14_begin.c]]) (.seq (.seq (.reg [.std, .obj .bool]) (.cond (.z .std) .std)) (.seq (.reg [.callq [lw14_fresh.c], .callq [lw14_fresh.c]]) (.z (.seq (.z (.block (.loop ⟨120, 0, [.box (cr 3 (cr 4 .nil)), .box (cI (cI (cI (cI (.cons (.v (.sl I)) (cI (cI (.cons (.v (.sl (.st (.pair I (.pair I I))))) (cI .nil))))))))), .box (cI (cI (cI (cI (.cons (.v (.sl I)) (cI (cI (.cons (.v (.sl (.st (.pair I (.pair I I))))) (cI .nil))))))))), .box (cr 5 (cB (cI .nil))), .map I .str, .box (cr 6 (cr 7 (cI (cI .nil)))), .arr .str, .map I .str], [0, 1, 5, 6, 7, 8, 9, 10], (.cons (.v (.sl (.sl I))) (.cons (.v (.sl (.sl I))) (cr 0 (cr 1 (cr 2 (.cons (.v (.sl I)) (.cons (.v (.sl I)) (cI .nil))))))))⟩ [(.exit 0, ⟨120, 0, [], [], .nil⟩), (.ret, ⟨120, 0, [], [4], (cB .nil)⟩)]
  (.join [(.exit 0, ⟨120, 0, [], [], .nil⟩), (.norm, ⟨120, 0, [.box (cr 3 (cr 4 .nil)), .box (cI (cI (cI (cI (.cons (.v (.sl I)) (cI (cI (.cons (.v (.sl (.st (.pair I (.pair I I))))) (cI .nil))))))))), .box (cI (cI (cI (cI (.cons (.v (.sl I)) (cI (cI (.cons (.v (.sl (.st (.pair I (.pair I I))))) (cI .nil))))))))), .box (cr 5 (cB (cI .nil))), .map I .str, .box (cr 6 (cr 7 (cI (cI .nil)))), .arr .str, .map I .str], [0, 1, 5, 6, 7, 8, 9, 10], (.cons (.v (.sl (.sl I))) (.cons (.v (.sl (.sl I))) (cr 0 (cr 1 (cr 2 (.cons (.v (.sl I)) (.cons (.v (.sl I)) (cI .nil))))))))⟩)]
  (.z (.cond .std .std)) (.seq (.block (.join [(.norm, ⟨120, 0, [.box (cr 3 (cr 4 .nil)), .box (cI (cI (cI (cI (.cons (.v (.sl I)) (cI (cI (.cons (.v (.sl (.st (.pair I (.pair I I))))) (cI .nil))))))))), .box (cI (cI (cI (cI (.cons (.v (.sl I)) (cI (cI (.cons (.v (.sl (.st (.pair I (.pair I I))))) (cI .nil))))))))), .box (cr 5 (cB (cI .nil))), .map I .str, .box (cr 6 (cr 7 (cI (cI .nil)))), .arr .str, .map I .str], [0, 1, 5, 6, 7, 8, 9, 10], (.cons (.v (.sl (.sl I))) (.cons (.v (.sl (.sl I))) (cr 0 (cr 1 (cr 2 (.cons (.v (.sl I)) (.cons (.v (.sl I)) (cI .nil))))))))⟩)]
  (.z (.cond (.seq (.drw [.std, .std, .std, .std, .std, .std, .call [lw14_inside.c], .call [chains_Save.c]]) (.z (.cond (.z (.rq 4 lw14_inside.c)) .std))) .std)) (.join [(.norm, ⟨120, 0, [.box (cr 3 (cr 4 .nil)), .box (cI (cI (cI (cI (.cons (.v (.sl I)) (cI (cI (.cons (.v (.sl (.st (.pair I (.pair I I))))) (cI .nil))))))))), .box (cI (cI (cI (cI (.cons (.v (.sl I)) (cI (cI (.cons (.v (.sl (.st (.pair I (.pair I I))))) (cI .nil))))))))), .box (cr 5 (cB (cI .nil))), .map I .str, .box (cr 6 (cr 7 (cI (cI .nil)))), .arr .str, .map I .str], [0, 1, 5, 6, 7, 8, 9, 10], (.cons (.v (.sl (.sl I))) (.cons (.v (.sl (.sl I))) (cr 0 (cr 1 (cr 2 (.cons (.v (.sl I)) (.cons (.v (.sl I)) (cI .nil))))))))⟩)]
  (.z (.cond (.seq (.drw [.std, .std, .std, .std, .std, .std, .call [lw14_inside.c], .call [chains_Save.c]]) (.z (.cond (.z (.rq 4 lw14_inside.c)) .std))) .std)) (.seq (.reg [.std, .std, .call [chains_Load_1.c]]) (.seq (.reg [.std, .std, .call [chains_Load_1.c]]) (.seq (.reg [.std, .std, .std, .std, .std, .std, .std, .std, .std, .callq [lw14_wide.c], .callq [rf01_Same.c], .std, .std, .std, .std, .std, .callq [lw14_wide.c], .callq [rf01_Same.c]]) (.cond (.z .std) .std))))))) (.reg [])))))) (.z .std))))))))
theorem lw14_ChainsApart.eq : absFn tt 120 lw14_ChainsApart.ins lw14_ChainsApart.outs (bodyOf Tryz.f6) lw14_ChainsApart.ann = lw14_ChainsApart := by
  funext a
  kernel_rfl
theorem lw14_ChainsApart.ok : lw14_ChainsApart.ann.ok Tryz.prog 0 120 :=
  ann_ok (by kernel_rfl) (by kernel_rfl) (cs_cons lw14_lives.s (cs_cons lw14_begin.s (cs_cons lw14_fresh.s (cs_cons lw14_fresh.s (cs_cons lw14_inside.s (cs_cons chains_Save.s (cs_cons lw14_inside.s (cs_cons lw14_inside.s (cs_cons chains_Save.s (cs_cons lw14_inside.s (cs_cons chains_Load_1.s (cs_cons chains_Load_1.s (cs_cons lw14_wide.s (cs_cons rf01_Same.s (cs_cons lw14_wide.s (cs_cons rf01_Same.s cs_nil)))))))))))))))) (cs_cons lw14_lives.q (cs_cons lw14_fresh.q (cs_cons lw14_fresh.q (cs_cons lw14_inside.q (cs_cons lw14_inside.q (cs_cons lw14_wide.q (cs_cons rf01_Same.q (cs_cons lw14_wide.q (cs_cons rf01_Same.q cs_nil)))))))))
theorem lw14_ChainsApart.sound : lw14_ChainsApart.c.ok Tryz.prog := snd tt_ok mix_ok lw14_ChainsApart.eq lw14_ChainsApart.ok Tryz.func6 rfl rfl (by kernel_rfl) (by kernel_rfl) (by decide) (by decide)

def deal_written_changes.l1 : (((Bool × Int) × (tL) × (Int × Int) × tS × (tL) × tL) × tI × Int × Int) → Option ((((Bool × Int) × (tL) × (Int × Int) × tS × (tL) × tL) × tI × Int × Int) ⊕ ((Bool × Int) × (tL) × (Int × Int) × tS × (tL) × tL)) := fun (((o1b, o1c), o2, (o3c, o3d), o4, o5, c3), t12, t13, t14) =>
 if decide (t14 < t13) = true then
  if 0 ≤ t14 ∧ t14 < (t12.length : Int) then
   (log_Log_Read (((o4, o5, o3c, o3d), o1b, o1c), t12.getD t14.toNat 0)).bind fun r30 =>
    if (!((((mget (K := I) (V := .str) o2 (t12.getD t14.toNat 0)).getD [])) == r30)) = true then
     if roomOk (c3.length + (([(t12.getD t14.toNat 0, ((mget (K := I) (V := .str) o2 (t12.getD t14.toNat 0)).getD []))] : tL)).length) 24 then
      some (.inl ((((o1b, o1c), o2, (o3c, o3d), o4, o5, c3 ++ (([(t12.getD t14.toNat 0, ((mget (K := I) (V := .str) o2 (t12.getD t14.toNat 0)).getD []))] : tL))), t12, t13, i64.wrap (t14 + 1))))
     else none
    else
     some (.inl ((((o1b, o1c), o2, (o3c, o3d), o4, o5, c3), t12, t13, i64.wrap (t14 + 1))))
  else none
 else
  some (.inr ((((o1b, o1c), o2, (o3c, o3d), o4, o5, c3))))

def deal_written_changes : ((Bool × Int) × (tL) × (Int × Int) × tS × tL) → Option (((Bool × Int) × (tL) × (Int × Int) × tS × tL) × tL) := fun ((o1b, o1c), o2, (o3c, o3d), o4, o5) =>
 (maps_Keys_map_int_string_int_string o2).bind fun r11 =>
  (slices_Sorted r11).bind fun (r12, r12_2) =>
   (loopO deal_written_changes.l1 ((((o1b, o1c), r12, (o3c, o3d), o4, o5, []), r12_2, (r12_2.length : Int), 0))).bind fun ((o1b, o1c), o2, (o3c, o3d), o4, o5, c3) =>
    some (((((o1b, o1c), o2, (o3c, o3d), o4, o5), c3)))

def deal_written_changes.c : Callee' := mkC 70 ⟨40, 0, [.box (cr 1 (cr 2 .nil)), .box (cr 3 (cB (cI .nil))), .map I .str, .box (cr 4 (cr 5 (cI (cI .nil)))), .arr .str, .map I .str], [0], (cr 0 .nil)⟩ [⟨40, 6, [.box (cr 1 (cr 2 .nil)), .box (cr 3 (cB (cI .nil))), .map I .str, .box (cr 4 (cr 5 (cI (cI .nil)))), .arr .str, .map I .str], [2], (.cons (.v (.sl (.st (.pair I .str)))) .nil)⟩] deal_written_changes
theorem deal_written_changes.s : deal_written_changes.c.ok Tryz.prog := sd 40 (.z (.z (.seq (.seq (.reg [.std, .std, .std, .std, .call [maps_Keys_map_int_string_int_string.c], .call [slices_Sorted.c]]) (.block (.loop ⟨40, 6, [.box (cr 1 (cr 2 .nil)), .box (cr 3 (cB (cI .nil))), .map I .str, .box (cr 4 (cr 5 (cI (cI .nil)))), .arr .str, .map I .str, .arr (.st (.pair I .str))], [0, 3, 12, 13, 14], (cr 0 (cr 6 (.cons (.v (.sl I)) (cI (cI .nil)))))⟩ [(.exit 0, ⟨40, 6, [.box (cr 1 (cr 2 .nil)), .box (cr 3 (cB (cI .nil))), .map I .str, .box (cr 4 (cr 5 (cI (cI .nil)))), .arr .str, .map I .str, .arr (.st (.pair I .str))], [3], (cr 6 .nil)⟩)]
  (.z (.seq (.cond .std .std) (.seq (.block (.z (.z (.seq (.rq 6 log_Log_Read.c) (.cond (.reg [.std, .std, .std, .std, .inl (.st (.pair I .str)), .obj (.st (.pair I .str))]) .std))))) (.reg []))))))) (.z .std)))) (kc maps_Keys_map_int_string_int_string.s (kc slices_Sorted.sound (kc log_Log_Read.s kn))) (kc log_Log_Read.q kn) Tryz.func70

def deal_Deal_Changed.l1 : (((Bool × Int) × (tL) × (Int × Int) × tS × (tL) × tI) × (tL) × Int × Int) → Option ((((Bool × Int) × (tL) × (Int × Int) × tS × (tL) × tI) × (tL) × Int × Int) ⊕ ((Bool × Int) × (tL) × (Int × Int) × tS × (tL) × tI)) := fun (((o1b, o1c), o2, (o3c, o3d), o4, o5, l3), t11, t12, t13) =>
 if decide (t13 < t12) = true then
  if 0 ≤ t13 ∧ t13 < (t11.length : Int) then
   if roomOk (l3.length + (([(t11.getD t13.toNat (0, [])).1] : tI)).length) 8 then
    some (.inl ((((o1b, o1c), o2, (o3c, o3d), o4, o5, l3 ++ (([(t11.getD t13.toNat (0, [])).1] : tI))), t11, t12, i64.wrap (t13 + 1))))
   else none
  else none
 else
  some (.inr ((((o1b, o1c), o2, (o3c, o3d), o4, o5, l3))))

def deal_Deal_Changed : ((Bool × Int) × (tL) × (Int × Int) × tS × tL) → Option (((Bool × Int) × (tL) × (Int × Int) × tS × tL) × tI) := fun ((o1b, o1c), o2, (o3c, o3d), o4, o5) =>
 (deal_written_changes ((o1b, o1c), o2, (o3c, o3d), o4, o5)).bind fun (((r11, r11_2), r11_3, (r11_4, r11_5), r11_6, r11_7), r11_8) =>
  (loopO deal_Deal_Changed.l1 ((((r11, r11_2), r11_3, (r11_4, r11_5), r11_6, r11_7, []), r11_8, (r11_8.length : Int), 0))).bind fun ((o1b, o1c), o2, (o3c, o3d), o4, o5, l3) =>
   some (((((o1b, o1c), o2, (o3c, o3d), o4, o5), l3)))

def deal_Deal_Changed.c : Callee' := mkC 33 ⟨24, 0, [.box (cr 1 (cr 2 .nil)), .box (cr 3 (cB (cI .nil))), .map I .str, .box (cr 4 (cr 5 (cI (cI .nil)))), .arr .str, .map I .str], [0], (cr 0 .nil)⟩ [⟨24, 6, [.box (cr 1 (cr 2 .nil)), .box (cr 3 (cB (cI .nil))), .map I .str, .box (cr 4 (cr 5 (cI (cI .nil)))), .arr .str, .map I .str], [2], (.cons (.v (.sl I)) .nil)⟩] deal_Deal_Changed
theorem deal_Deal_Changed.s : deal_Deal_Changed.c.ok Tryz.prog := sd 24 (.z (.seq (.seq (.reg [.std, .obj .bool]) (.cond (.z .std) .std)) (.z (.seq (.seq (.reg [.std, .std, .std, .call [deal_written_changes.c]]) (.block (.loop ⟨24, 6, [.box (cr 1 (cr 2 .nil)), .box (cr 3 (cB (cI .nil))), .map I .str, .box (cr 4 (cr 5 (cI (cI .nil)))), .arr .str, .map I .str, .arr I], [3, 11, 12, 13], (cr 6 (.cons (.v (.sl (.st (.pair I .str)))) (cI (cI .nil))))⟩ [(.exit 0, ⟨24, 6, [.box (cr 1 (cr 2 .nil)), .box (cr 3 (cB (cI .nil))), .map I .str, .box (cr 4 (cr 5 (cI (cI .nil)))), .arr .str, .map I .str, .arr I], [3], (cr 6 .nil)⟩)]
  (.z (.seq (.cond .std .std) (.seq (.block (.z (.reg [.std, .std, .std, .inl I, .obj I]))) (.reg []))))))) (.z .std))))) (kc deal_written_changes.s kn) kn Tryz.func33

def rf05_Fits.l1 : (tI × Int) → Option ((tI × Int) ⊕ (tI ⊕ Int)) := fun (m0, i3) =>
 if decide (i3 < (m0.length : Int)) = true then
  if 0 ≤ i3 ∧ i3 < (m0.length : Int) then
   if (m0.getD i3.toNat 0 != 0) = true then
    some (.inr (.inr 12))
   else
    some (.inl ((m0, i64.wrap (i3 + 1))))
  else none
 else
  some (.inr (.inl m0))

def rf05_Fits.l2 : (tI × Int) → Option ((tI × Int) ⊕ (Unit ⊕ Int)) := fun (m0, i4) =>
 if decide (i4 < (m0.length : Int)) = true then
  if 0 ≤ i4 ∧ i4 < (m0.length : Int) then
   if decide (m0.getD i4.toNat 0 < 0) = false then
    if 0 ≤ i4 ∧ i4 < (m0.length : Int) then
     if decide (m0.getD i4.toNat 0 > 65535) = true then
      some (.inr (.inr 3))
     else
      some (.inl ((m0, i64.wrap (i4 + 1))))
    else none
   else
    some (.inr (.inr 3))
  else none
 else
  some (.inr (.inl ()))

def rf05_Fits : tI → Option (Int) := fun m0 =>
 (loopO rf05_Fits.l1 ((m0, 76))).bind fun d => match d with
 | .inl m0 =>
  (loopO rf05_Fits.l2 ((m0, 0))).bind fun d => match d with
  | .inl _ =>
   some 0
  | .inr t2 =>
   some t2
 | .inr t2 =>
  some t2

def rf05_Fits.c : Callee' := mkC 74 ⟨34, 0, [], [0], (.cons (.v (.sl I)) .nil)⟩ [⟨34, 0, [], [2], (cI .nil)⟩] rf05_Fits
theorem rf05_Fits.q : FunQuiet rf05_Fits.c.F := mkFun_quiet rfl rfl
theorem rf05_Fits.s : rf05_Fits.c.ok Tryz.prog := sd 34 (.z (.seq (.z (.block (.loop ⟨34, 0, [], [0, 3], (.cons (.v (.sl I)) (cI .nil))⟩ [(.exit 0, ⟨34, 0, [], [0], (.cons (.v (.sl I)) .nil)⟩), (.ret, ⟨34, 0, [], [2], (cI .nil)⟩)]
  (.seq (.z (.cond .std .std)) (.seq (.block (.z (.cond (.z .std) .std))) (.reg [])))))) (.seq (.z (.block (.loop ⟨34, 0, [], [0, 4], (.cons (.v (.sl I)) (cI .nil))⟩ [(.exit 2, ⟨34, 0, [], [], .nil⟩), (.ret, ⟨34, 0, [], [2], (cI .nil)⟩)]
  (.seq (.z (.cond .std .std)) (.seq (.block (.z (.cond (.z .std) .std))) (.reg [])))))) (.z .std)))) kn kn Tryz.func74

def rf05_at : (tI × Int) → Option (Int) := fun (m0, i1) =>
 if decide (i1 < 0) = false then
  if decide (i1 ≥ (m0.length : Int)) = true then
   some 0
  else
   if 0 ≤ i1 ∧ i1 < (m0.length : Int) then
    some ((m0.getD i1.toNat 0))
   else none
 else
  some 0

def rf05_at.c : Callee' := mkC 120 ⟨17, 0, [], [0, 1], (.cons (.v (.sl I)) (cI .nil))⟩ [⟨17, 0, [], [4], (cI .nil)⟩] rf05_at
theorem rf05_at.q : FunQuiet rf05_at.c.F := mkFun_quiet rfl rfl
theorem rf05_at.s : rf05_at.c.ok Tryz.prog := sd 17 (.z (.seq (.z (.cond (.z .std) .std)) (.z .std))) kn kn Tryz.func120

def rf05_List.l1 : (tI × tI × Int × Bool × Int) → Option ((tI × tI × Int × Bool × Int) ⊕ (tI × Bool)) := fun (out5, m0, from1, some6, i7) =>
 if decide (i7 < 8) = true then
  (rf05_at (m0, i64.wrap (from1 + i7))).bind fun r17 =>
   if roomOk (out5.length + (([r17] : tI)).length) 8 then
    if some6 = false then
     (rf05_at (m0, i64.wrap (from1 + i7))).bind fun r26 =>
      some (.inl ((out5 ++ (([r17] : tI)), m0, from1, (r26 != 0), i64.wrap (i7 + 1))))
    else
     some (.inl ((out5 ++ (([r17] : tI)), m0, from1, true, i64.wrap (i7 + 1))))
   else none
 else
  some (.inr (((out5, some6))))

def rf05_List : (tI × Int) → Option tI := fun (m0, from1) =>
 (loopO rf05_List.l1 (([], m0, from1, false, 0))).bind fun (out5, some6) =>
  if (!some6) = true then
   some ((([] : tI)))
  else
   some out5

def rf05_List.c : Callee' := mkC 75 ⟨32, 0, [], [0, 1], (.cons (.v (.sl I)) (cI .nil))⟩ [⟨32, 0, [], [4], (.cons (.v (.sl I)) .nil)⟩] rf05_List
theorem rf05_List.q : FunQuiet rf05_List.c.F := mkFun_quiet rfl rfl
theorem rf05_List.s : rf05_List.c.ok Tryz.prog := sd 32 (.z (.z (.z (.seq (.z (.block (.loop ⟨32, 0, [.arr I], [0, 1, 5, 6, 7], (.cons (.v (.sl I)) (cI (cr 0 (cB (cI .nil)))))⟩ [(.exit 0, ⟨32, 0, [.arr I], [5, 6], (cr 0 (cB .nil))⟩)]
  (.seq (.z (.cond .std .std)) (.seq (.block (.seq (.reg [.std, .std, .std, .std, .std, .callq [rf05_at.c], .inl I, .obj I]) (.rq 6 rf05_at.c))) (.reg [])))))) (.seq (.z (.cond (.z .std) .std)) (.z .std)))))) (kc rf05_at.s (kc rf05_at.s kn)) (kc rf05_at.q (kc rf05_at.q kn)) Tryz.func75

def rf05_Double.l1 : (List (tI) × tI × Bool × Int) → Option ((List (tI) × tI × Bool × Int) ⊕ (List (tI) × Bool)) := fun (out3, m0, some4, i5) =>
 if decide (i5 < 8) = true then
  (rf05_List (m0, i64.wrap (12 + (i64.wrap (8 * i5))))).bind fun r15 =>
   if roomOk (out3.length + (([r15] : List tI)).length) 24 then
    if some4 = false then
     some (.inl ((out3 ++ (([r15] : List tI)), m0, decide ((r15.length : Int) > 0), i64.wrap (i5 + 1))))
    else
     some (.inl ((out3 ++ (([r15] : List tI)), m0, true, i64.wrap (i5 + 1))))
   else none
 else
  some (.inr (((out3, some4))))

def rf05_Double : tI → Option (List tI) := fun m0 =>
 (loopO rf05_Double.l1 (([], m0, false, 0))).bind fun (out3, some4) =>
  if (!some4) = true then
   some ((([] : List tI)))
  else
   some out3

def rf05_Double.c : Callee' := mkC 76 ⟨29, 0, [], [0], (.cons (.v (.sl I)) .nil)⟩ [⟨29, 0, [], [2], (.cons (.v (.sl (.sl I))) .nil)⟩] rf05_Double
theorem rf05_Double.q : FunQuiet rf05_Double.c.F := mkFun_quiet rfl rfl
theorem rf05_Double.s : rf05_Double.c.ok Tryz.prog := sd 29 (.z (.z (.z (.seq (.z (.block (.loop ⟨29, 0, [.arr (.sl I)], [0, 3, 4, 5], (.cons (.v (.sl I)) (cr 0 (cB (cI .nil))))⟩ [(.exit 0, ⟨29, 0, [.arr (.sl I)], [3, 4], (cr 0 (cB .nil))⟩)]
  (.seq (.z (.cond .std .std)) (.seq (.block (.seq (.rq 4 rf05_List.c) (.seq (.reg [.std, .std, .inl (.sl I), .obj (.sl I)]) (.reg [])))) (.reg [])))))) (.seq (.z (.cond (.z .std) .std)) (.z .std)))))) (kc rf05_List.s kn) (kc rf05_List.q kn) Tryz.func76

def rf14_Lists.l1 : (Int × List (tI) × Int) → Option ((Int × List (tI) × Int) ⊕ Int) := fun (n3, l4, i5) =>
 if decide (i5 < (l4.length : Int)) = true then
  if 0 ≤ i5 ∧ i5 < (l4.length : Int) then
   if decide (((l4.getD i5.toNat []).length : Int) > 0) = true then
    some (.inl ((i64.wrap (n3 + 1), l4, i64.wrap (i5 + 1))))
   else
    some (.inl ((n3, l4, i64.wrap (i5 + 1))))
  else none
 else
  some (.inr n3)

def rf14_Lists : tI → Option (Int) := fun m0 =>
 (rf05_Fits m0).bind fun r7 =>
  if (r7 != 0) = true then
   some (-1)
  else
   ((
    (rf05_List (m0, 4)).bind fun r10 =>
     if decide ((r10.length : Int) > 0) = true then
      some (((m0, i64.wrap (0 + 1))))
     else
      some (((m0, 0)))) : Option (tI × Int)).bind fun (m0, n3) =>
    (rf05_Double m0).bind fun r16 =>
     ((
      if decide ((r16.length : Int) > 0) = true then
       some (((i64.wrap (n3 + 1), r16)))
      else
       some (((n3, r16)))) : Option (Int × List tI)).bind fun (n3, l4) =>
      (loopO rf14_Lists.l1 ((n3, l4, 0))).bind fun n3 =>
       some n3

def rf14_Lists.c : Callee' := mkC 36 ⟨37, 0, [], [0], (.cons (.v (.sl I)) .nil)⟩ [⟨37, 0, [], [2], (cI .nil)⟩] rf14_Lists
theorem rf14_Lists.q : FunQuiet rf14_Lists.c.F := mkFun_quiet rfl rfl
theorem rf14_Lists.s : rf14_Lists.c.ok Tryz.prog := sd 37 (.z (.seq (.seq (.reg [.std, .callq [rf05_Fits.c]]) (.cond (.z .std) .std)) (.z (.join [(.norm, ⟨37, 0, [], [0, 3], (.cons (.v (.sl I)) (cI .nil))⟩)]
  (.seq (.reg [.std, .callq [rf05_List.c]]) (.cond (.reg []) .std)) (.seq (.reg [.std, .callq [rf05_Double.c]]) (.join [(.norm, ⟨37, 0, [], [3, 4], (cI (.cons (.v (.sl (.sl I))) .nil))⟩)]
  (.z (.cond (.reg []) .std)) (.seq (.z (.block (.loop ⟨37, 0, [], [3, 4, 5], (cI (.cons (.v (.sl (.sl I))) (cI .nil)))⟩ [(.exit 0, ⟨37, 0, [], [3], (cI .nil)⟩)]
  (.seq (.z (.cond .std .std)) (.seq (.block (.z (.cond (.reg []) .std))) (.reg [])))))) (.z .std)))))))) (kc rf05_Fits.s (kc rf05_List.s (kc rf05_Double.s kn))) (kc rf05_Fits.q (kc rf05_List.q (kc rf05_Double.q kn))) Tryz.func36

def stock_Used : (((Bool × Int) × (tL) × (Int × Int) × tS × tL) × Int) → Option (((Bool × Int) × (tL) × (Int × Int) × tS × tL) × Bool × Int) := fun (((o1b, o1c), o2, (o3c, o3d), o4, o5), block1) =>
 (stock_open ((o1b, o1c), o2, (o3c, o3d), o4, o5)).bind fun d => match d with
 | .inl (((r10, r10_2), r10_3, (r10_4, r10_5), r10_6, r10_7), r10_8) =>
  if (r10_8 != 0) = true then
   some (((((r10, r10_2), r10_3, (r10_4, r10_5), r10_6, r10_7), false, r10_8)))
  else none
 | .inr ((((r10b, r10_2b), r10_3b, (r10_4b, r10_5b), r10_6b, r10_7b, r10_8b, r10_9b, r10_10b, r10_11b), r10_12b)) =>
  if (r10_12b != 0) = true then
   some (((((r10b, r10_2b), r10_3b, (r10_4b, r10_5b), r10_6b, r10_7b), false, r10_12b)))
  else
   (crown_Owned ((r10_8b, r10_9b, r10_10b), block1)).bind fun r23 =>
    if (!r23) = true then
     some (((((r10b, r10_2b), r10_3b, (r10_4b, r10_5b), r10_6b, r10_7b), false, 1)))
    else
     (marks_Is (r10_11b, block1)).bind fun r30 =>
      some (((((r10b, r10_2b), r10_3b, (r10_4b, r10_5b), r10_6b, r10_7b), r30, 0)))

def stock_Used.c : Callee' := mkC 35 ⟨31, 0, [.box (cr 1 (cr 2 .nil)), .box (cr 3 (cB (cI .nil))), .map I .str, .box (cr 4 (cr 5 (cI (cI .nil)))), .arr .str, .map I .str], [0, 1], (cr 0 (cI .nil))⟩ [⟨31, 6, [.box (cr 1 (cr 2 .nil)), .box (cr 3 (cB (cI .nil))), .map I .str, .box (cr 4 (cr 5 (cI (cI .nil)))), .arr .str, .map I .str], [4, 5], (cB (cI .nil))⟩] stock_Used
theorem stock_Used.s : stock_Used.c.ok Tryz.prog := sd 31 (.z (.seq (.reg [.std, .call [stock_open.c]]) (.seq (.block (.z (.cond (.z .std) (.seq (.rq 5 crown_Owned.c) (.cond (.z .std) .std))))) (.seq (.rq 5 marks_Is.c) .std)))) (kc stock_open.s (kc crown_Owned.s (kc marks_Is.s kn))) (kc crown_Owned.q (kc marks_Is.q kn)) Tryz.func35

end
end Go.Proofs.YtlbammfnkphajaaGreatDoor.Abs
