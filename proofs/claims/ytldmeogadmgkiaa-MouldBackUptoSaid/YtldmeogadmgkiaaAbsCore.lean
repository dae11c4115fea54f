/- The abstract machine: values that are never written to any more stand inline, memory of the call's own stands in a list of objects; a function's code is run over these in continuation style. -/
import Derived.Tactics
import Derived.LoopN
import Derived.RowKit3
namespace Go.Proofs.Ytldmeogadmgkiaa.Abs
open Go

/-! ### Types of inline data -/

inductive Ty where
  | int (k : IntKind)
  | bool
  | str
  | sl (e : Ty)
  | pair (a b : Ty)
  | st (a : Ty)
  | unit
  deriving DecidableEq

@[reducible] def Ty.D : Ty → Type
  | .int _ => Int
  | .bool => Bool
  | .str => List UInt8
  | .sl e => List e.D
  | .pair a b => a.D × b.D
  | .st a => a.D
  | .unit => Unit

def Ty.size : Ty → Nat
  | .pair a b => a.size + b.size
  | .st a => a.size
  | .unit => 0
  | .int _ => 1
  | .bool => 1
  | .str => 1
  | .sl _ => 1

def Ty.dflt : (T : Ty) → T.D
  | .int _ => (0 : Int)
  | .bool => false
  | .str => ([] : List UInt8)
  | .sl _ => []
  | .pair a b => (a.dflt, b.dflt)
  | .st a => a.dflt
  | .unit => ()

/-! ### Abstract values -/

inductive AV where
  | int (k : IntKind) (n : Int)
  | bool (b : Bool)
  | str (s : List UInt8)
  | isl (T : Ty) (xs : List T.D)
  | iptr (T : Ty) (v : T.D) (sub : Nat)
  | nilsl
  | nilptr
  | nilmap
  | nilfn
  | nilifc
  | slw (j : Nat)
  | sl (j off len : Nat)
  | ptr (j i sub : Nat)
  | map (j : Nat)
  | fn (f : Fn) (first cap : List AV)
  | ifc (t : TypeId) (v : AV)
  | agg (cs : List AV)
  | tup (vs : List AV)
  | undef
  | dead
  deriving Inhabited

inductive AO where
  | dead
  | arr (T : Ty) (xs : List T.D)
  | box (cs : List AV)
  | map (K V : Ty) (es : List (K.D × V.D))

/-- The cells of a datum. -/
def cellsAV : (T : Ty) → T.D → List AV
  | .int k, n => [.int k n]
  | .bool, b => [.bool b]
  | .str, s => [.str s]
  | .sl e, xs => [.isl e xs]
  | .pair a b, v => cellsAV a v.1 ++ cellsAV b v.2
  | .st a, v => cellsAV a v
  | .unit, _ => []

def toAV : (T : Ty) → T.D → AV
  | .int k, n => .int k n
  | .bool, b => .bool b
  | .str, s => .str s
  | .sl e, xs => .isl e xs
  | .pair a b, v => .agg (cellsAV a v.1 ++ cellsAV b v.2)
  | .st a, v => .agg (cellsAV a v)
  | .unit, _ => .agg []

def castD {A B : Ty} (h : A = B) (x : A.D) : B.D := h ▸ x
theorem castD_self {A : Ty} (h : A = A) (x : A.D) : castD h x = x := rfl

/-- A datum of cells, and the cells behind it. -/
def ofCells : (T : Ty) → List AV → Option (T.D × List AV)
  | .int k, .int k' n :: r => if k' = k then some (n, r) else none
  | .bool, .bool b :: r => some (b, r)
  | .str, .str s :: r => some (s, r)
  | .sl e, .isl e' xs :: r => if h : e' = e then some (castD (A := .sl e') (B := .sl e) (h ▸ rfl) xs, r) else none
  | .sl _, .nilsl :: r => some ([], r)
  | .pair a b, l => (ofCells a l).bind fun x => (ofCells b x.2).bind fun y => some ((x.1, y.1), y.2)
  | .st a, l => ofCells a l
  | .unit, l => some ((), l)
  | _, _ => none

/-- The cells of an abstract value (as 'Value.cells'). -/
def AV.cells : AV → List AV
  | .agg cs => cs
  | v => [v]

def Ty.isAgg : Ty → Bool
  | .pair _ _ => true
  | .st _ => true
  | .unit => true
  | .int _ => false
  | .bool => false
  | .str => false
  | .sl _ => false

def AV.isAgg : AV → Bool
  | .agg _ => true
  | _ => false

def ofAV (T : Ty) (x : AV) : Option T.D := if x.isAgg = T.isAgg then (ofCells T x.cells).bind fun y => match y.2 with | [] => some y.1 | _ => none else none

/-! ### What is known of the program's types -/

inductive TK where
  | int (k : IntKind) | bool | str | sl (e : Nat) | st (fs : List (Nat × Nat)) | ptr (e : Nat) | map (k v : Nat) | func | iface | arr (n e : Nat) | other

structure TI where
  kind : TK
  size : Nat
  bytes : Nat
  zero : List Value

/-! ### Annotations of operations -/

/-- What a called function does: of arguments and the objects that they name, in continuation style. -/
abbrev Fun := (ρ : Type) → List AV → List AO → (List AV → List AO → Option ρ) → Option ρ

inductive OA : Type 1 where
  | std
  /-- made inline: never written to again -/
  | inl (T : Ty)
  /-- made as an object -/
  | obj (T : Ty)
  /-- a call of a Go function -/
  | call (fid : Nat) (F : Fun)

/-! ### The state -/

structure St where
  sl : List AV
  ob : List AO

def St.put (s : St) (d : Option Nat) (v : AV) : St :=
  match d with
  | some d => { s with sl := s.sl.set d v }
  | none => s

def constAV1 : Value → AV
  | .int k n => .int k n
  | .bool b => .bool b
  | .string s => .str s.data.toList
  | .slice none 0 0 => .nilsl
  | .pointer none => .nilptr
  | .map none => .nilmap
  | .nilFunc => .nilfn
  | .nilIface => .nilifc
  | _ => .dead

def constAV : Value → AV
  | .agg cs => .agg (cs.toList.map constAV1)
  | .int k n => .int k n
  | .bool b => .bool b
  | .string s => .str s.data.toList
  | .slice none 0 0 => .nilsl
  | .pointer none => .nilptr
  | .map none => .nilmap
  | .nilFunc => .nilfn
  | .nilIface => .nilifc
  | _ => .dead

def ev (s : List AV) : Operand → AV
  | .tmp t => s.getD t .dead
  | .const v => constAV v
  | .global _ => .dead
  | .func f => .fn (.func f) [] []

/-! ### Operations, in continuation style -/

section
variable {ρ : Type}

def bitsOp (op : BinOp) (k : IntKind) (x y : Int) : Int :=
  let a := BitVec.ofInt k.bits x
  let b := BitVec.ofInt k.bits y
  match op with
  | .and => k.wrap (a &&& b).toNat
  | .or => k.wrap (a ||| b).toNat
  | .xor => k.wrap (a ^^^ b).toNat
  | _ => k.wrap (a &&& ~~~b).toNat

def binInt (op : BinOp) (a : IntKind) (m n : Int) (k : AV → Option ρ) : Option ρ :=
  match op with
  | .add => k (.int a (a.wrap (m + n)))
  | .sub => k (.int a (a.wrap (m - n)))
  | .mul => k (.int a (a.wrap (m * n)))
  | .quo => if n = 0 then none else k (.int a (a.wrap (m.tdiv n)))
  | .rem => if n = 0 then none else k (.int a (m.tmod n))
  | .and => k (.int a (bitsOp .and a m n))
  | .or => k (.int a (bitsOp .or a m n))
  | .xor => k (.int a (bitsOp .xor a m n))
  | .andNot => k (.int a (bitsOp .andNot a m n))
  | .eql => k (.bool (m == n))
  | .neq => k (.bool (m != n))
  | .lss => k (.bool (decide (m < n)))
  | .leq => k (.bool (decide (m ≤ n)))
  | .gtr => k (.bool (decide (m > n)))
  | .geq => k (.bool (decide (m ≥ n)))
  | .shl => none
  | .shr => none

def binStr (op : BinOp) (s t : List UInt8) (k : AV → Option ρ) : Option ρ :=
  match op with
  | .add => if s.length + t.length ≤ 9223372036854775807 then k (.str (s ++ t)) else none
  | .eql => k (.bool (s == t))
  | .neq => k (.bool (!(s == t)))
  | .lss => k (.bool (Op.bytesLess s t))
  | .leq => k (.bool (Op.bytesLess s t || s == t))
  | .gtr => k (.bool (!(Op.bytesLess s t || s == t)))
  | .geq => k (.bool (!Op.bytesLess s t))
  | _ => none

def binK (TT : Nat → TI) (t : Nat) (op : BinOp) (x y : AV) (k : AV → Option ρ) : Option ρ :=
  match x, y with
  | .int a m, .int b n =>
    match op with
    | .shl => if 0 ≤ n then k (.int a (a.wrap (m * 2 ^ (min n.toNat a.bits)))) else none
    | .shr => if 0 ≤ n then k (.int a (m.fdiv (2 ^ (min n.toNat a.bits)))) else none
    | op => if a = b then binInt op a m n k else none
  | .str s, .str t => binStr op s t k
  | .bool a, .bool b =>
    match (TT t).kind, op with
    | .bool, .eql => k (.bool (a == b))
    | .bool, .neq => k (.bool (!(a == b)))
    | _, _ => none
  | _, _ => none

def pickK (b : Bool) (x y : AV) (k : AV → Option ρ) : Option ρ :=
  match b with
  | true => k x
  | false => k y

def unK (op : UnOp) (x : AV) (k : AV → Option ρ) : Option ρ :=
  match op, x with
  | .not, .bool b => k (.bool (!b))
  | .neg, .int a n => k (.int a (a.wrap (0 - n)))
  | .xor, .int a n => k (.int a (bitsOp .xor a (if a.signed then -1 else a.max) n))
  | _, _ => none

def partAV (ag : Bool) (sub size : Nat) (cs : List AV) : AV :=
  if ag then .agg ((cs.drop sub).take size) else cs.getD sub .dead

def TK.isAgg : TK → Bool
  | .st _ => true
  | .arr _ _ => true
  | _ => false

def TK.isOther : TK → Bool
  | .other => true
  | _ => false

def loadCs (TT : Nat → TI) (t sub : Nat) (cs : List AV) (k : AV → Option ρ) : Option ρ :=
  if (TT t).kind.isOther = true then none
  else if sub + (if (TT t).kind.isAgg = true then (TT t).size else 1) ≤ cs.length then k (partAV (TT t).kind.isAgg sub (TT t).size cs) else none

def loadK (TT : Nat → TI) (t : Nat) (p : AV) (ob : List AO) (k : AV → Option ρ) : Option ρ :=
  match p with
  | .iptr T v sub => loadCs TT t sub (cellsAV T v) k
  | .ptr j i sub =>
    match ob.getD j .dead with
    | .arr T xs => loadCs TT t sub (cellsAV T (xs.getD i T.dflt)) k
    | .box cs => loadCs TT t sub cs k
    | _ => none
  | _ => none

def setCells : List AV → Nat → List AV → List AV
  | cs, _, [] => cs
  | cs, n, v :: vs => setCells (cs.set n v) (n + 1) vs

/-- What may lie in a cell. -/
def cellOk : AV → Bool
  | .agg _ | .tup _ | .undef | .dead => false
  | _ => true

def storeK (TT : Nat → TI) (t : Nat) (p v : AV) (ob : List AO) (k : List AO → Option ρ) : Option ρ :=
  match p with
  | .ptr j i sub =>
    if (TT t).kind.isOther = false ∧ v.cells.length = (TT t).size ∧ v.cells.all cellOk = true then
      match ob.getD j .dead with
      | .arr T xs => if sub + v.cells.length ≤ T.size then (ofCells T (setCells (cellsAV T (xs.getD i T.dflt)) sub v.cells)).bind fun y => k (ob.set j (.arr T (xs.set i y.1))) else none
      | .box cs => if sub + v.cells.length ≤ cs.length then k (ob.set j (.box (setCells cs sub v.cells))) else none
      | _ => none
    else none
  | _ => none

def fieldAt (TT : Nat → TI) (s f : Nat) : Option (Nat × Nat) :=
  match (TT s).kind with
  | .st fs => fs[f]?
  | _ => none

def fieldAddrK (TT : Nat → TI) (s : Nat) (p : AV) (f : Nat) (k : AV → Option ρ) : Option ρ :=
  match fieldAt TT s f with
  | some (ft, off) =>
    if (TT ft).size = 0 ∨ (TT ft).kind.isOther = true then none else
    match p with
    | .ptr j i sub => k (.ptr j i (sub + off))
    | .iptr T v sub => k (.iptr T v (sub + off))
    | _ => none
  | none => none

def fieldK (TT : Nat → TI) (s : Nat) (x : AV) (f : Nat) (k : AV → Option ρ) : Option ρ :=
  match fieldAt TT s f with
  | some (ft, off) =>
    match x with
    | .agg cs => loadCs TT ft off cs k
    | _ => none
  | none => none

def indexAddrK (TT : Nat → TI) (t : Nat) (x i : AV) (ob : List AO) (k : AV → Option ρ) : Option ρ :=
  match (TT t).kind, i with
  | .sl e, .int _ i =>
    match x with
    | .isl T xs => if (TT e).size = T.size ∧ (TT e).kind.isOther = false then (if 0 ≤ i ∧ i < xs.length then k (.iptr T (xs.getD i.toNat T.dflt) 0) else none) else none
    | .slw j =>
      match ob.getD j .dead with
      | .arr T xs => if (TT e).size = T.size ∧ (TT e).kind.isOther = false then (if 0 ≤ i ∧ i < xs.length then k (.ptr j i.toNat 0) else none) else none
      | _ => none
    | .sl j off len =>
      match ob.getD j .dead with
      | .arr T _ => if (TT e).size = T.size ∧ (TT e).kind.isOther = false then (if 0 ≤ i ∧ i < len then k (.ptr j (off + i.toNat) 0) else none) else none
      | _ => none
    | _ => none
  | _, _ => none

def indexK (TT : Nat → TI) (t : Nat) (x i : AV) (k : AV → Option ρ) : Option ρ :=
  match (TT t).kind, x, i with
  | .str, .str s, .int _ i => if 0 ≤ i ∧ i < s.length then k (.int .u8 (s.getD i.toNat 0).toNat) else none
  | _, _, _ => none

def lenAO : AO → Nat
  | .arr _ xs => xs.length
  | .map _ _ es => es.length
  | _ => 0

def boundK (lo hi : Option AV) (n : Nat) (k : Int → Int → Option ρ) : Option ρ :=
  match lo, hi with
  | none, none => k 0 n
  | some (.int _ l), none => if 0 ≤ l ∧ l ≤ n then k l n else none
  | none, some (.int _ h) => if 0 ≤ h ∧ h ≤ n then k 0 h else none
  | some (.int _ l), some (.int _ h) => if 0 ≤ l ∧ l ≤ h ∧ h ≤ n then k l h else none
  | _, _ => none

def cut {α : Type} (lo hi : Option AV) (xs : List α) (l h : Int) : List α :=
  match lo, hi with
  | none, none => xs
  | some _, none => xs.drop l.toNat
  | none, some _ => xs.take h.toNat
  | some _, some _ => (xs.take h.toNat).drop l.toNat

def sliceK (TT : Nat → TI) (t : Nat) (x : AV) (lo hi mx : Option AV) (ob : List AO) (k : AV → Option ρ) : Option ρ :=
  match mx with
  | some _ => none
  | none =>
    match (TT t).kind with
    | .str =>
      match x with
      | .str s => boundK lo hi s.length fun l h => k (.str (cut lo hi s l h))
      | _ => none
    | .sl e =>
      match x with
      | .isl T xs => if (TT e).size = T.size ∧ (TT e).kind.isOther = false then boundK lo hi xs.length fun l h => k (.isl T (cut lo hi xs l h)) else none
      | .nilsl => if (TT e).kind.isOther = false then boundK lo hi 0 fun _ _ => k .nilsl else none
      | .slw j =>
        match ob.getD j .dead with
        | .arr T xs => if (TT e).size = T.size ∧ (TT e).kind.isOther = false then boundK lo hi xs.length fun l h => k (.sl j l.toNat (h - l).toNat) else none
        | _ => none
      | .sl j off len =>
        match ob.getD j .dead with
        | .arr T _ => if (TT e).size = T.size ∧ (TT e).kind.isOther = false then boundK lo hi len fun l h => k (.sl j (off + l.toNat) (h - l).toNat) else none
        | _ => none
      | _ => none
    | _ => none

/-- What a slice holds, as a list. -/
def listOf (T : Ty) (x : AV) (ob : List AO) : Option (List T.D) :=
  match x with
  | .nilsl => some []
  | .isl T' xs => if h : T' = T then some (castD (A := .sl T') (B := .sl T) (h ▸ rfl) xs) else none
  | .slw j =>
    match ob.getD j .dead with
    | .arr T' xs => if h : T' = T then some (castD (A := .sl T') (B := .sl T) (h ▸ rfl) xs) else none
    | _ => none
  | .sl j off len =>
    match ob.getD j .dead with
    | .arr T' xs => if h : T' = T then some (castD (A := .sl T') (B := .sl T) (h ▸ rfl) ((xs.drop off).take len)) else none
    | _ => none
  | .str s =>
    match T with
    | .int .u8 => some (s.map fun b => (b.toNat : Int))
    | _ => none
  | _ => none

/-- The object of a slice that is appended to is gone behind the append. -/
def killOf (x : AV) (ob : List AO) : List AO :=
  match x with
  | .slw j => ob.set j .dead
  | .sl j _ _ => ob.set j .dead
  | _ => ob

def isOwn : AV → Bool
  | .nilsl => true
  | .slw _ => true
  | .sl _ _ _ => true
  | _ => false

def roomOk (n bytes : Nat) : Prop := 0 < bytes ∧ n * bytes ≤ 140737488355328
instance (n bytes : Nat) : Decidable (roomOk n bytes) := by unfold roomOk; exact inferInstance

def TK.rowish : TK → Bool
  | .sl _ => true
  | .str => true
  | _ => false

def appendK (TT : Nat → TI) (T : Ty) (t u : Nat) (x y : AV) (ob : List AO) (k : AV → List AO → Option ρ) : Option ρ :=
  match (TT t).kind with
  | .sl e =>
    if (TT e).size = T.size ∧ 0 < T.size ∧ (TT e).kind.isOther = false ∧ isOwn x = true ∧ (TT u).kind.rowish = true ∧ (TT e).zero.length = T.size then
      match listOf T x ob, listOf T y ob with
      | some xs, some ys => if roomOk (xs.length + ys.length) (TT e).bytes then k (.slw ob.length) (killOf x ob ++ [.arr T (xs ++ ys)]) else none
      | _, _ => none
    else none
  | _ => none

def lenK (TT : Nat → TI) (t : Nat) (x : AV) (ob : List AO) (k : AV → Option ρ) : Option ρ :=
  match (TT t).kind, x with
  | .str, .str s => k (.int .i64 s.length)
  | .sl _, .isl _ xs => k (.int .i64 xs.length)
  | .sl _, .nilsl => k (.int .i64 0)
  | .map _ _, .nilmap => k (.int .i64 0)
  | .sl _, .slw j =>
    match ob.getD j .dead with
    | .arr _ xs => k (.int .i64 xs.length)
    | _ => none
  | .sl _, .sl j _ len =>
    match ob.getD j .dead with
    | .arr _ _ => k (.int .i64 len)
    | _ => none
  | .map _ _, .map j =>
    match ob.getD j .dead with
    | .map _ _ es => k (.int .i64 es.length)
    | _ => none
  | _, _ => none

def mxK (mx : Bool) : List AV → (AV → Option ρ) → Option ρ
  | .int a m :: rest, k => go a m rest k
  | _, _ => none
where
  go (a : IntKind) (m : Int) : List AV → (AV → Option ρ) → Option ρ
    | [], k => k (.int a m)
    | .int _ n :: rest, k => go a (if mx then (if n > m then n else m) else (if n < m then n else m)) rest k
    | _, _ => none

def convertK (TT : Nat → TI) (h : OA) (src dst : Nat) (x : AV) (ob : List AO) (k : AV → List AO → Option ρ) : Option ρ :=
  match (TT src).kind, (TT dst).kind, x with
  | _, .int b, .int _ n => k (.int b (b.wrap n)) ob
  | _, .str, .str s => k (.str s) ob
  | .str, .sl e, .str s =>
    match (TT e).kind, h with
    | .int .u8, .inl _ => k (.isl (.int .u8) (s.map fun b => (b.toNat : Int))) ob
    | .int .u8, .obj _ => k (.slw ob.length) (ob ++ [.arr (.int .u8) (s.map fun b => (b.toNat : Int))])
    | _, _ => none
  | .sl e, .str, x =>
    match (TT e).kind with
    | .int .u8 => (listOf (.int .u8) x ob).bind fun xs => k (.str (xs.map fun (n : Int) => UInt8.ofNat n.toNat)) ob
    | _ => none
  | _, _, _ => none

/-- The zero value's cells are the datum 'dflt'. -/
def zeroOk : Ty → List Value → Bool
  | .int k, [.int k' n] => decide (k' = k) && decide (n = 0)
  | .bool, [.bool b] => !b
  | .str, [.string s] => s.data.toList.isEmpty
  | .sl _, [.slice none 0 _] => true
  | .pair a b, l => zeroOk a (l.take a.size) && zeroOk b (l.drop a.size)
  | .st a, l => zeroOk a l
  | .unit, [] => true
  | _, _ => false

def makeSliceK (TT : Nat → TI) (T : Ty) (t : Nat) (l c : AV) (ob : List AO) (k : AV → List AO → Option ρ) : Option ρ :=
  match (TT t).kind, l, c with
  | .sl e, .int _ l, .int _ c =>
    if (TT e).size = T.size ∧ 0 < T.size ∧ (TT e).kind.isOther = false ∧ zeroOk T (TT e).zero = true then
      if 0 ≤ l ∧ l ≤ c ∧ c * (TT e).bytes ≤ 140737488355328 ∧ c ≤ 9223372036854775807 then k (.slw ob.length) (ob ++ [.arr T (List.replicate l.toNat T.dflt)]) else none
    else none
  | _, _, _ => none

/-- The elements of a literal. -/
def litList (T : Ty) : List (Nat × AV) → List T.D → Option (List T.D)
  | [], xs => some xs
  | (i, v) :: r, xs => if i < xs.length then (ofAV T v).bind fun d => litList T r (xs.set i d) else none

def buildSliceK (TT : Nat → TI) (h : OA) (t len : Nat) (parts : List (Nat × AV)) (ob : List AO) (k : AV → List AO → Option ρ) : Option ρ :=
  match (TT t).kind with
  | .sl e =>
    match h with
    | .inl T => if (TT e).size = T.size ∧ 0 < T.size ∧ (TT e).kind.isOther = false ∧ zeroOk T (TT e).zero = true ∧ len * T.size ≤ 16777216 then (litList T parts (List.replicate len T.dflt)).bind fun xs => k (.isl T xs) ob else none
    | .obj T => if (TT e).size = T.size ∧ 0 < T.size ∧ (TT e).kind.isOther = false ∧ zeroOk T (TT e).zero = true ∧ len * T.size ≤ 16777216 then (litList T parts (List.replicate len T.dflt)).bind fun xs => k (.slw ob.length) (ob ++ [.arr T xs]) else none
    | _ => none
  | _ => none

def buildCells (fs : List (Nat × Nat)) (TT : Nat → TI) : List (Nat × AV) → List AV → Option (List AV)
  | [], cs => some cs
  | (i, v) :: r, cs =>
    match fs[i]? with
    | some (ft, off) => if v.cells.length = (TT ft).size ∧ off + v.cells.length ≤ cs.length ∧ v.cells.all cellOk = true then buildCells fs TT r (setCells cs off v.cells) else none
    | none => none

def buildK (TT : Nat → TI) (t : Nat) (parts : List (Nat × AV)) (k : AV → Option ρ) : Option ρ :=
  match (TT t).kind with
  | .st fs =>
    if fs.all (fun f => !(TT f.1).kind.isOther) = true then
      match buildCells fs TT parts ((TT t).zero.map constAV1) with
      | some cs => k (.agg cs)
      | none => none
    else none
  | _ => none

def boxK (h : OA) (v : AV) (ob : List AO) (k : AV → List AO → Option ρ) : Option ρ :=
  match h with
  | .inl T => if 0 < T.size then (ofAV T v).bind fun d => k (.iptr T d 0) ob else none
  | _ => if v.cells.all cellOk = true then k (.ptr ob.length 0 0) (ob ++ [.box v.cells]) else none

/-! #### Calls -/

/-- A value that names no object. -/
def flat : AV → Bool
  | .int _ _ | .bool _ | .str _ | .isl _ _ | .iptr _ _ _ | .nilsl | .nilptr | .nilmap | .nilfn | .nilifc | .fn _ [] [] => true
  | _ => false

def flatArg : AV → Bool
  | .agg cs => cs.all flat
  | x => flat x

def resAV : List AV → AV
  | [v] => v
  | vs => .tup vs

def callK (F : Fun) (args : List AV) (ob : List AO) (k : AV → List AO → Option ρ) : Option ρ :=
  if args.all flatArg = true then
    F ρ args [] fun res os =>
      match os with
      | [] => if res.all flatArg = true then k (resAV res) ob else none
      | _ => none
  else none

def opK (TT : Nat → TI) (h : OA) (o : Op) (s : List AV) (ob : List AO) (k : AV → List AO → Option ρ) : Option ρ :=
  match o with
  | .move x | .assign x => k (ev s x) ob
  | .pick c a b =>
    match ev s c with
    | .bool t => pickK t (ev s a) (ev s b) fun v => k v ob
    | _ => none
  | .binOp op t x y _ => binK TT t op (ev s x) (ev s y) fun v => k v ob
  | .unOp op _ x => unK op (ev s x) fun v => k v ob
  | .load t p => loadK TT t (ev s p) ob fun v => k v ob
  | .store t p v => storeK TT t (ev s p) (ev s v) ob fun ob' => k .undef ob'
  | .fieldAddr t p f => fieldAddrK TT t (ev s p) f fun v => k v ob
  | .field t x f => fieldK TT t (ev s x) f fun v => k v ob
  | .indexAddr t x i => indexAddrK TT t (ev s x) (ev s i) ob fun v => k v ob
  | .index t x i => indexK TT t (ev s x) (ev s i) fun v => k v ob
  | .slice t x lo hi mx => sliceK TT t (ev s x) (lo.map (ev s)) (hi.map (ev s)) (mx.map (ev s)) ob fun v => k v ob
  | .convert src dst x => if (TT src).kind.isOther = true then none else convertK TT h src dst (ev s x) ob k
  | .makeSlice t l c =>
    match h with
    | .obj T => makeSliceK TT T t (ev s l) (ev s c) ob k
    | _ => none
  | .buildSlice t len parts => buildSliceK TT h t len (parts.toList.map fun p => (p.1, ev s p.2)) ob k
  | .build t parts => buildK TT t (parts.toList.map fun p => (p.1, ev s p.2)) fun v => k v ob
  | .box _ x => boxK h (ev s x) ob k
  | .alloc t => if (TT t).kind.isOther = false ∧ (TT t).zero ≠ [] then k (.ptr ob.length 0 0) (ob ++ [.box ((TT t).zero.map constAV1)]) else none
  | .extract x i =>
    match ev s x with
    | .tup vs => if i < vs.length then k (vs.getD i .dead) ob else none
    | _ => none
  | .nilCheck x =>
    match ev s x with
    | .ptr j i sub => k (.ptr j i sub) ob
    | .iptr T v sub => k (.iptr T v sub) ob
    | _ => none
  | .call { callee := .builtin b, args, argTypes } =>
    match b, args.toList, argTypes.toList with
    | .len, [x], [t] => lenK TT t (ev s x) ob fun v => k v ob
    | .append, [x, y], [t, u] =>
      match h with
      | .obj T => appendK TT T t u (ev s x) (ev s y) ob k
      | _ => none
    | .min, l, _ => mxK false (l.map (ev s)) fun v => k v ob
    | .max, l, _ => mxK true (l.map (ev s)) fun v => k v ob
    | _, _, _ => none
  | .call { callee := .value f, args, .. } =>
    match h with
    | .call fid F =>
      match ev s f with
      | .fn (.func g) first cap => if g = fid then callK F (first ++ args.toList.map (ev s) ++ cap) ob k else none
      | _ => none
    | _ => none
  | _ => none

def opsK (TT : Nat → TI) (all : List Oper) : List Oper → List OA → St → (St → Option ρ) → Option ρ
  | [], _, st, k => k st
  | o :: os, hs, st, k =>
    match o.guard with
    | none => opK TT (hs.headD .std) o.op st.sl st.ob fun v ob => opsK TT all os hs.tail (({ st with ob := ob } : St).put o.dst v) k
    | some (g, want) =>
      match (all[g]?).bind (·.dst) with
      | none => none
      | some d =>
        match st.sl.getD d .dead with
        | .bool b =>
          if b = want then
            opK TT (hs.headD .std) o.op (st.sl.set d (.bool want)) st.ob fun v ob =>
              opsK TT all os hs.tail (({ sl := st.sl.set d (.bool want), ob := ob } : St).put o.dst v) k
          else opsK TT all os hs.tail (({ st with sl := st.sl.set d (.bool (!want)) } : St).put o.dst .undef) k
        | .undef => opsK TT all os hs.tail (st.put o.dst .undef) k
        | _ => none
end

/-! ### Typed cuts -/

inductive PT where
  | dead
  | arr (T : Ty)
  | box (ts : List Ty)
  | map (K V : Ty)

@[reducible] def boxD : List Ty → Type
  | [] => Unit
  | [t] => t.D
  | t :: u :: r => t.D × boxD (u :: r)

@[reducible] def PT.D : PT → Type
  | .dead => Unit
  | .arr T => List T.D
  | .box ts => boxD ts
  | .map K V => List (K.D × V.D)

inductive VT where
  | v (T : Ty)
  | own (p : PT)
  | pin (i : Nat)

@[reducible] def VT.D : VT → Type
  | .v T => T.D
  | .own p => p.D
  | .pin _ => Unit

structure Spec where
  n : Nat
  pins : List PT
  vars : List (Nat × VT)

@[reducible] def varsD : List (Nat × VT) → Type
  | [] => Unit
  | [x] => x.2.D
  | x :: y :: r => x.2.D × varsD (y :: r)

@[reducible] def pinsD : List PT → Type
  | [] => Unit
  | [p] => p.D
  | p :: q :: r => p.D × pinsD (q :: r)

@[reducible] def Spec.D (s : Spec) : Type :=
  match s.pins with
  | [] => varsD s.vars
  | p :: r => pinsD (p :: r) × varsD s.vars

def boxEnc : (ts : List Ty) → boxD ts → List AV
  | [], _ => []
  | [t], x => [toAV t x]
  | t :: u :: r, x => toAV t x.1 :: boxEnc (u :: r) x.2

def boxDec : (ts : List Ty) → List AV → Option (boxD ts)
  | [], [] => some ()
  | [t], [x] => ofAV t x
  | t :: u :: r, x :: l => (ofAV t x).bind fun a => (boxDec (u :: r) l).bind fun b => some (a, b)
  | _, _ => none

def PT.enc : (p : PT) → p.D → AO
  | .dead, _ => .dead
  | .arr T, xs => .arr T xs
  | .box ts, x => .box (boxEnc ts x)
  | .map K V, es => .map K V es

def PT.ref : PT → Nat → AV
  | .arr _, j => .slw j
  | .box _, j => .ptr j 0 0
  | .map _ _, j => .map j
  | .dead, _ => .dead

def PT.dec (p : PT) (o : AO) : Option p.D :=
  match p, o with
  | .dead, _ => some ()
  | .arr T, .arr T' xs => if h : T' = T then some (castD (A := .sl T') (B := .sl T) (h ▸ rfl) xs) else none
  | .box ts, .box cs => if ts.all (fun t => !t.isAgg) = true then boxDec ts cs else none
  | .map K V, .map K' V' es => if h : K' = K ∧ V' = V then some (castD (A := .sl (.pair K' V')) (B := .sl (.pair K V)) (by rw [h.1, h.2]) es) else none
  | _, _ => none

/-- The content of a value that owns its object. -/
def PT.decRef (p : PT) (x : AV) (ob : List AO) : Option p.D :=
  match p, x with
  | .arr T, .nilsl => if 0 < T.size then some [] else none
  | .arr T, .slw j => PT.dec (.arr T) (ob.getD j .dead)
  | .box ts, .ptr j 0 0 => PT.dec (.box ts) (ob.getD j .dead)
  | .map K V, .map j => PT.dec (.map K V) (ob.getD j .dead)
  | _, _ => none

def refOf : AV → Option Nat
  | .slw j => some j
  | .sl j _ _ => some j
  | .ptr j _ _ => some j
  | .map j => some j
  | _ => none

def notIn (j : Nat) : List Nat → Bool
  | [] => true
  | i :: r => if j = i then false else notIn j r

def okRef (x : AV) (used : List Nat) : Bool :=
  match refOf x with
  | some j => notIn j used
  | none => true

def addRef (x : AV) (used : List Nat) : List Nat :=
  match refOf x with
  | some j => j :: used
  | none => used

/-- A datum of a value; a slice of the call's own is given up: it is never written to again. -/
def decV (T : Ty) (x : AV) (ob : List AO) : Option T.D :=
  match x with
  | .slw _ | .sl _ _ _ =>
    match T with
    | .sl e => listOf e x ob
    | _ => none
  | x => ofAV T x

def VT.dec (t : VT) (x : AV) (ob : List AO) : Option t.D :=
  match t with
  | .v T => decV T x ob
  | .own p => p.decRef x ob
  | .pin i =>
    match x with
    | .slw j => if j = i then some () else none
    | .ptr j 0 0 => if j = i then some () else none
    | .map j => if j = i then some () else none
    | _ => none

def VT.isPin : VT → Bool
  | .pin _ => true
  | _ => false

def VT.decU (t : VT) (x : AV) (ob : List AO) (used : List Nat) : Option t.D :=
  if t.isPin = true then t.dec x ob else if okRef x used = true then t.dec x ob else none

def VT.addU (t : VT) (x : AV) (used : List Nat) : List Nat := if t.isPin = true then used else addRef x used

def varsDec : (l : List (Nat × VT)) → St → List Nat → Option (varsD l)
  | [], _, _ => some ()
  | [x], st, used => x.2.decU (st.sl.getD x.1 .dead) st.ob used
  | x :: y :: r, st, used => (x.2.decU (st.sl.getD x.1 .dead) st.ob used).bind fun a => (varsDec (y :: r) st (x.2.addU (st.sl.getD x.1 .dead) used)).bind fun b => some (a, b)

def pinsDec : (l : List PT) → List AO → Option (pinsD l)
  | [], _ => some ()
  | [p], o :: _ => p.dec o
  | p :: q :: r, o :: ob => (p.dec o).bind fun a => (pinsDec (q :: r) ob).bind fun b => some (a, b)
  | _, _ => none

def Spec.dec (s : Spec) (st : St) : Option s.D :=
  match s with
  | ⟨_, [], vars⟩ => varsDec vars st []
  | ⟨_, p :: r, vars⟩ => (pinsDec (p :: r) st.ob).bind fun a => (varsDec vars st (List.range (p :: r).length)).bind fun b => some (a, b)

def VT.enc (t : VT) (d : t.D) (pins : List PT) (ob : List AO) : AV × List AO :=
  match t with
  | .v T => (toAV T d, ob)
  | .own p => (p.ref ob.length, ob ++ [p.enc d])
  | .pin i => ((pins.getD i .dead).ref i, ob)

def varsEnc : (l : List (Nat × VT)) → varsD l → List PT → St → St
  | [], _, _, st => st
  | [x], d, pins, st => let y := x.2.enc d pins st.ob; { sl := st.sl.set x.1 y.1, ob := y.2 }
  | x :: y :: r, d, pins, st => let z := x.2.enc d.1 pins st.ob; varsEnc (y :: r) d.2 pins { sl := st.sl.set x.1 z.1, ob := z.2 }

def pinsEnc : (l : List PT) → pinsD l → List AO
  | [], _ => []
  | [p], d => [p.enc d]
  | p :: q :: r, d => p.enc d.1 :: pinsEnc (q :: r) d.2

def Spec.enc (s : Spec) (d : s.D) : St :=
  match s with
  | ⟨n, [], vars⟩ => varsEnc vars d [] ⟨List.replicate n .dead, []⟩
  | ⟨n, p :: r, vars⟩ => varsEnc vars d.2 (p :: r) ⟨List.replicate n .dead, pinsEnc (p :: r) d.1⟩

/-! ### Loops -/

def iter {σ τ : Type} (step : σ → Option (σ ⊕ τ)) : Nat → σ → Option τ
  | 0, _ => none
  | n + 1, s =>
    match step s with
    | none => none
    | some (.inl s') => iter step n s'
    | some (.inr r) => some r

theorem iter_succ_of {σ τ : Type} {step : σ → Option (σ ⊕ τ)} {n : Nat} : ∀ {s : σ} {r : τ}, iter step n s = some r → iter step (n + 1) s = some r := by
  induction n with
  | zero => intro s r h; cases h
  | succ n ih =>
    intro s r h
    rw [iter] at h ⊢
    split at h
    · cases h
    · rename_i s' e; exact ih h
    · exact h

theorem iter_mono {σ τ : Type} {step : σ → Option (σ ⊕ τ)} {n m : Nat} (hm : n ≤ m) {s : σ} {r : τ} (h : iter step n s = some r) : iter step m s = some r := by
  induction hm with
  | refl => exact h
  | step _ ih => exact iter_succ_of ih

open Classical in
noncomputable def loopO {σ τ : Type} (step : σ → Option (σ ⊕ τ)) (s : σ) : Option τ :=
  if h : ∃ n, (iter step n s).isSome = true then iter step (Classical.choose h) s else none

theorem loopO_iter {σ τ : Type} {step : σ → Option (σ ⊕ τ)} {s : σ} {r : τ} (h : loopO step s = some r) : ∃ n, iter step n s = some r := by
  unfold loopO at h
  split at h
  · exact ⟨_, h⟩
  · cases h

theorem loopO_of_iter {σ τ : Type} {step : σ → Option (σ ⊕ τ)} {n : Nat} {s : σ} {r : τ} (h : iter step n s = some r) : loopO step s = some r := by
  have he : ∃ n, (iter step n s).isSome = true := ⟨n, by rw [h]; rfl⟩
  unfold loopO
  rw [dif_pos he]
  have hs := Classical.choose_spec he
  generalize Classical.choose he = m at hs
  obtain ⟨r', hr'⟩ := Option.isSome_iff_exists.mp hs
  rw [hr']
  rcases Nat.le_total n m with hle | hle
  · rw [iter_mono hle h] at hr'; exact hr'.symm
  · rw [iter_mono hle hr'] at h; exact h

theorem loopO_eq {σ τ : Type} (step : σ → Option (σ ⊕ τ)) (s : σ) :
    loopO step s = match step s with | none => none | some (.inl s') => loopO step s' | some (.inr r) => some r := by
  cases hs : step s with
  | none =>
    cases hl : loopO step s with
    | none => rfl
    | some r =>
      obtain ⟨n, hn⟩ := loopO_iter hl
      cases n with
      | zero => cases hn
      | succ n => rw [iter, hs] at hn; cases hn
  | some x =>
    cases x with
    | inr r => exact loopO_of_iter (n := 1) (by rw [iter, hs])
    | inl s' =>
      show loopO step s = loopO step s'
      cases hl : loopO step s' with
      | some r =>
        obtain ⟨n, hn⟩ := loopO_iter hl
        exact loopO_of_iter (n := n + 1) (by rw [iter, hs]; exact hn)
      | none =>
        cases hl2 : loopO step s with
        | none => rfl
        | some r =>
          obtain ⟨n, hn⟩ := loopO_iter hl2
          cases n with
          | zero => cases hn
          | succ n =>
            rw [iter, hs] at hn
            rw [loopO_of_iter hn] at hl
            cases hl

/-! ### Code -/

inductive EK where
  | norm
  | exit (id : Nat)
  | ret
  deriving DecidableEq

@[reducible] def AltD : List (EK × Spec) → Type
  | [] => Empty
  | [a] => a.2.D
  | a :: b :: r => a.2.D ⊕ AltD (b :: r)

def inject : (l : List (EK × Spec)) → EK → St → Option (AltD l)
  | [], _, _ => none
  | [a], e, st => if a.1 = e then a.2.dec st else none
  | a :: b :: r, e, st => if a.1 = e then (a.2.dec st).bind fun d => some (.inl d) else (inject (b :: r) e st).bind fun d => some (.inr d)

def dispatch {ρ : Type} : (l : List (EK × Spec)) → AltD l → (EK → St → Option ρ) → Option ρ
  | [], x, _ => nomatch x
  | [a], x, k => k a.1 (a.2.enc x)
  | a :: b :: r, x, k =>
    match x with
    | .inl d => k a.1 (a.2.enc d)
    | .inr d => dispatch (b :: r) d k

def kOf {ρ : Type} (kN : St → Option ρ) (kE : Nat → St → Option ρ) (kR : St → Option ρ) : EK → St → Option ρ
  | .norm, st => kN st
  | .exit id, st => kE id st
  | .ret, st => kR st

inductive Ann : Type 1 where
  | std
  | reg (hs : List OA)
  | drw (hs : List OA)
  | seq (a b : Ann)
  | join (alts : List (EK × Spec)) (a b : Ann)
  | cond (a b : Ann)
  | block (a : Ann)
  | loop (h : Spec) (alts : List (EK × Spec)) (a : Ann)

/-! #### Regions that draw their order -/

def opTmps (o : Op) : List Nat := o.operands.toList.filterMap fun | .tmp t => some t | _ => none

/-- An operation that leaves the objects as they are. -/
def OA.still (h : OA) : Op → Bool
  | .move _ | .assign _ | .pick .. | .binOp .. | .unOp .. | .load .. | .fieldAddr .. | .field .. | .indexAddr .. | .index .. | .slice .. | .build .. | .extract .. | .nilCheck _ => true
  | .convert .. | .buildSlice .. => match h with | .inl _ => true | _ => false
  | .call { callee := .builtin .len, .. } => true
  | .call { callee := .builtin .min, .. } => true
  | .call { callee := .builtin .max, .. } => true
  | .call { callee := .value _, .. } => true
  | _ => false

def bindsTo (o : Oper) (i : Nat) : Bool := o.after.toList.any fun e => e.on == i && Region.binds .any e

/-- The slots that an operation reads: its operands, and its guard's. -/
def gTmps (all : List Oper) (o : Oper) : List Nat :=
  match o.guard with
  | none => opTmps o.op
  | some (g, _) =>
    match (all[g]?).bind (·.dst) with
    | some d => d :: opTmps o.op
    | none => opTmps o.op

/-- Each slot that another operation of the region writes is bound to that one; no slot is written twice. -/
def drwOps (all : List Oper) : List Oper → Nat → List (Nat × Nat) → Bool
  | [], _, _ => true
  | o :: r, j, w =>
    o.after.toList.all (fun e => !Region.binds .any e || decide (e.on < j)) &&
    (gTmps all o).all (fun t => w.all fun x => x.1 != t || bindsTo o x.2) &&
    (gTmps all o).all (fun t => (o :: r).all fun p => p.dst != some t) &&
    (match o.dst with | some d => w.all (fun x => x.1 != d) | none => true) &&
    drwOps all r (j + 1) (match o.dst with | some d => (d, j) :: w | none => w)

/-- What an operation is bound to, through others. -/
def boundTo (ops : List Oper) : Nat → Nat → List Nat
  | 0, _ => []
  | n + 1, j => match ops[j]? with
    | none => []
    | some o => (o.after.toList.filter (Region.binds .any)).flatMap fun e => e.on :: boundTo ops n e.on

/-- All but the last are still; the last one is still, or comes behind all others. -/
def drwStill : List Oper → List OA → Bool
  | [], _ => true
  | [_], _ => true
  | o :: p :: r, hs => (hs.headD .std).still o.op && drwStill (p :: r) hs.tail

def lastStill : List Oper → List OA → Bool
  | [], _ => true
  | [o], hs => (hs.headD .std).still o.op
  | _ :: p :: r, hs => lastStill (p :: r) hs.tail

/-- The last one has no guard. -/
def lastPlain : List Oper → Bool
  | [] => true
  | [o] => match o.guard with | none => true | some _ => false
  | _ :: p :: r => lastPlain (p :: r)

/-- Each edge points back. -/
def drwBack : List Oper → Nat → Bool
  | [], _ => true
  | o :: r, j => o.after.toList.all (fun e => !Region.binds .any e || decide (e.on < j)) && drwBack r (j + 1)

def drwOk (ops : List Oper) (hs : List OA) : Bool :=
  drwBack ops 0 && drwStill ops hs && ((drwOps ops ops 0 [] && lastStill ops hs) ||
    (drwOps ops ops.dropLast 0 [] && (lastPlain ops && (List.range (ops.length - 1)).all fun i => (boundTo ops ops.length (ops.length - 1)).contains i)))

/-- Behind a branch its condition is known. -/
def St.know (st : St) (c : Operand) (b : Bool) : St :=
  match c with
  | .tmp i => { st with sl := st.sl.set i (.bool b) }
  | _ => st

noncomputable def absCode (TT : Nat → TI) (c : Code) : Ann → {ρ : Type} → St → (St → Option ρ) → (Nat → St → Option ρ) → (St → Option ρ) → Option ρ :=
  match c with
  | .skip => fun _ _ st kN _ _ => kN st
  | .ret => fun _ _ st _ _ kR => kR st
  | .exit id => fun _ _ st _ kE _ => kE id st
  | .region _ ops false => fun x _ st kN _ _ =>
    match x with
    | .reg hs => opsK TT ops.toList ops.toList hs st kN
    | _ => none
  | .seq a b => fun x _ st kN kE kR =>
    match x with
    | .seq x y => absCode TT a x st (fun st' => absCode TT b y st' kN kE kR) kE kR
    | .join alts x y =>
      (absCode TT a x st (inject alts .norm) (fun id st' => inject alts (.exit id) st') (inject alts .ret)).bind fun d =>
        dispatch alts d (kOf (fun st' => absCode TT b y st' kN kE kR) kE kR)
    | _ => none
  | .cond c a b => fun x _ st kN kE kR =>
    match x with
    | .cond x y =>
      match ev st.sl c with
      | .bool t => if t = true then absCode TT a x (st.know c true) kN kE kR else absCode TT b y (st.know c false) kN kE kR
      | _ => none
    | _ => none
  | .block id a => fun x _ st kN kE kR =>
    match x with
    | .block x => absCode TT a x st kN (fun id' st' => if id' = id then kN st' else kE id' st') kR
    | _ => none
  | .loop a => fun x _ st kN kE kR =>
    match x with
    | .loop h alts x =>
      (h.dec st).bind fun s =>
        (loopO (fun s => absCode TT a x (h.enc s) (fun st' => (h.dec st').bind fun s' => some (.inl s'))
            (fun id st' => (inject alts (.exit id) st').bind fun d => some (.inr d)) (fun st' => (inject alts .ret st').bind fun d => some (.inr d))) s).bind fun d =>
          dispatch alts d (kOf kN kE kR)
    | _ => none
  | .region _ ops true => fun x _ st kN _ _ =>
    match x with
    | .drw hs => if drwOk ops.toList hs = true then opsK TT ops.toList ops.toList hs st kN else none
    | _ => none
  | .rangeFunc _ _ _ _ => fun _ _ _ _ _ _ => none
  | .scope _ => fun _ _ _ _ _ _ => none
  | .label _ => fun _ _ _ _ _ _ => none
  | .goto _ => fun _ _ _ _ _ _ => none
  | .refuse _ => fun _ _ _ _ _ _ => none

section
variable {TT : Nat → TI} {ρ : Type} {st : St} {kN : St → Option ρ} {kE : Nat → St → Option ρ} {kR : St → Option ρ}
theorem ac_skip {x : Ann} : absCode TT .skip x st kN kE kR = kN st := by rw [absCode]
theorem ac_ret {x : Ann} : absCode TT .ret x st kN kE kR = kR st := by rw [absCode]
theorem ac_exit {x : Ann} {id : Nat} : absCode TT (.exit id) x st kN kE kR = kE id st := by rw [absCode]
theorem ac_reg {id : Nat} {ops : List Oper} {hs : List OA} : absCode TT (.region id ops.toArray false) (.reg hs) st kN kE kR = opsK TT ops ops hs st kN := by rw [absCode]
theorem ac_seq {a b : Code} {x y : Ann} : absCode TT (.seq a b) (.seq x y) st kN kE kR = absCode TT a x st (fun st' => absCode TT b y st' kN kE kR) kE kR := by rw [absCode]
theorem ac_join {a b : Code} {x y : Ann} {alts : List (EK × Spec)} : absCode TT (.seq a b) (.join alts x y) st kN kE kR =
    (absCode TT a x st (inject alts .norm) (fun id st' => inject alts (.exit id) st') (inject alts .ret)).bind fun d =>
        dispatch alts d (kOf (fun st' => absCode TT b y st' kN kE kR) kE kR) := by rw [absCode]
theorem ac_cond {c : Operand} {a b : Code} {x y : Ann} : absCode TT (.cond c a b) (.cond x y) st kN kE kR =
    match ev st.sl c with
      | .bool t => if t = true then absCode TT a x (st.know c true) kN kE kR else absCode TT b y (st.know c false) kN kE kR
      | _ => none := by rw [absCode]
theorem ac_block {id : Nat} {a : Code} {x : Ann} : absCode TT (.block id a) (.block x) st kN kE kR =
    absCode TT a x st kN (fun id' st' => if id' = id then kN st' else kE id' st') kR := by rw [absCode]
theorem ac_loop {a : Code} {h : Spec} {alts : List (EK × Spec)} {x : Ann} : absCode TT (.loop a) (.loop h alts x) st kN kE kR =
    (h.dec st).bind fun s =>
        (loopO (fun s => absCode TT a x (h.enc s) (fun st' => (h.dec st').bind fun s' => some (.inl s'))
            (fun id st' => (inject alts (.exit id) st').bind fun d => some (.inr d)) (fun st' => (inject alts .ret st').bind fun d => some (.inr d))) s).bind fun d =>
          dispatch alts d (kOf kN kE kR) := by rw [absCode]
end

/-! ### Functions -/

def resList (s : Spec) (d : s.D) : List AV := s.vars.map fun x => (s.enc d).sl.getD x.1 .dead

/-- A function of flat arguments, in the form that calls take. -/
def mkFun (ps : List Ty) (rs : Spec) (f : boxD ps → Option rs.D) : Fun := fun _ args ob k =>
  match ob with
  | [] => (boxDec ps args).bind fun a => (f a).bind fun d => k (resList rs d) (rs.enc d).ob
  | _ => none

/-- What the code computes. -/
noncomputable def absFn (TT : Nat → TI) (N : Nat) (ps : List Ty) (rs : Spec) (c : Code) (x : Ann) (a : boxD ps) : Option rs.D :=
  absCode TT c x ⟨boxEnc ps a ++ List.replicate (N - ps.length) .undef, []⟩ rs.dec (fun _ _ => none) rs.dec

end Go.Proofs.Ytldmeogadmgkiaa.Abs
