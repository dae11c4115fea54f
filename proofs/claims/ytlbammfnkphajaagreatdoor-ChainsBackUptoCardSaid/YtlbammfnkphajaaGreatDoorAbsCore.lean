/- The abstract machine: values that are never written to any more stand inline, memory of the call's own stands in a list of objects; a function's code is run over these in continuation style. -/
import Derived.Tactics
import Derived.LoopN
import Derived.RowKit3
namespace Go.Proofs.YtlbammfnkphajaaGreatDoor.Abs
open Go

/-! ### Types of inline data -/

inductive Ty where
  | int (k : IntKind)
  | bool
  | str
  | sl (e : Ty)
  | pair (a b : Ty)
  | st (a : Ty)
  | unit
  /-- a pointer to memory that stays as it is -/
  | ptr (e : Ty)
  /-- a map that stays as it is -/
  | map (K V : Ty)
  /-- a slice that stays as it is, nil where it is empty -/
  | nsl (e : Ty)
  deriving DecidableEq

@[reducible] def Ty.D : Ty → Type
  | .int _ => Int
  | .bool => Bool
  | .str => List UInt8
  | .sl e => List e.D
  | .pair a b => a.D × b.D
  | .st a => a.D
  | .unit => Unit
  | .ptr e => e.D
  | .map K V => List (K.D × V.D)
  | .nsl e => List e.D

def Ty.size : Ty → Nat
  | .pair a b => a.size + b.size
  | .st a => a.size
  | .unit => 0
  | .int _ => 1
  | .bool => 1
  | .str => 1
  | .sl _ => 1
  | .ptr _ => 1
  | .map _ _ => 1
  | .nsl _ => 1

def Ty.dflt : (T : Ty) → T.D
  | .int _ => (0 : Int)
  | .bool => false
  | .str => ([] : List UInt8)
  | .sl _ => []
  | .pair a b => (a.dflt, b.dflt)
  | .st a => a.dflt
  | .unit => ()
  | .ptr e => e.dflt
  | .map _ _ => []
  | .nsl _ => []

/-- Equality of data, as Go's '=='. -/
def Ty.eqb : (T : Ty) → T.D → T.D → Bool
  | .int _, (m : Int), (n : Int) => m == n
  | .bool, (a : Bool), (b : Bool) => a == b
  | .str, (a : List UInt8), (b : List UInt8) => a == b
  | .pair a b, x, y => a.eqb x.1 y.1 && b.eqb x.2 y.2
  | .st a, x, y => a.eqb x y
  | _, _, _ => false

/-! ### Maps, as lists of entries -/

/-- What a map has at a key. -/
def mget {K V : Ty} (es : List (K.D × V.D)) (x : K.D) : Option V.D := (es.find? fun e => K.eqb x e.1).map (·.2)

/-- A map with an entry set. -/
def mput {K V : Ty} : List (K.D × V.D) → K.D → V.D → List (K.D × V.D)
  | [], x, y => [(x, y)]
  | e :: es, x, y => if K.eqb x e.1 = true then (x, y) :: es else e :: mput es x y

/-! ### Abstract values -/

inductive AV where
  | int (k : IntKind) (n : Int)
  | bool (b : Bool)
  | str (s : List UInt8)
  | isl (T : Ty) (xs : List T.D)
  | nsl (T : Ty) (xs : List T.D)
  | iptr (T : Ty) (v : T.D) (sub : Nat)
  | imap (K V : Ty) (es : List (K.D × V.D))
  | nilsl
  | nilptr
  | nilmap
  | nilfn
  | nilifc
  | slw (j : Nat)
  | sl (j off len : Nat)
  | ptr (j i sub : Nat)
  | map (j : Nat)
  | fn (f : Fn) (first cap : List AV)
  | ifc (t : TypeId) (v : AV)
  | agg (cs : List AV)
  | tup (vs : List AV)
  /-- a slice of values, one cell each, that is never written to again; a pointer to such a cell -/
  | fsl (vs : List AV)
  | fptr (v : AV)
  | undef
  | dead
  deriving Inhabited

inductive AO where
  | dead
  | arr (T : Ty) (xs : List T.D)
  | box (cs : List AV)
  | map (K V : Ty) (es : List (K.D × V.D))

/-- The cells of a datum. -/
def cellsAV : (T : Ty) → T.D → List AV
  | .int k, n => [.int k n]
  | .bool, b => [.bool b]
  | .str, s => [.str s]
  | .sl e, xs => [.isl e xs]
  | .pair a b, v => cellsAV a v.1 ++ cellsAV b v.2
  | .st a, v => cellsAV a v
  | .unit, _ => []
  | .ptr e, v => [.iptr e v 0]
  | .map K V, es => [.imap K V es]
  | .nsl e, xs => [.nsl e xs]

def toAV : (T : Ty) → T.D → AV
  | .int k, n => .int k n
  | .bool, b => .bool b
  | .str, s => .str s
  | .sl e, xs => .isl e xs
  | .pair a b, v => .agg (cellsAV a v.1 ++ cellsAV b v.2)
  | .st a, v => .agg (cellsAV a v)
  | .unit, _ => .agg []
  | .ptr e, v => .iptr e v 0
  | .map K V, es => .imap K V es
  | .nsl e, xs => .nsl e xs

def castD {A B : Ty} (h : A = B) (x : A.D) : B.D := h ▸ x
theorem castD_self {A : Ty} (h : A = A) (x : A.D) : castD h x = x := rfl

/-- A datum of cells, and the cells behind it. -/
def ofCells : (T : Ty) → List AV → Option (T.D × List AV)
  | .int k, .int k' n :: r => if k' = k then some (n, r) else none
  | .bool, .bool b :: r => some (b, r)
  | .str, .str s :: r => some (s, r)
  | .sl e, .isl e' xs :: r => if h : e' = e then some (castD (A := .sl e') (B := .sl e) (h ▸ rfl) xs, r) else none
  | .sl e, .nsl e' xs :: r => if h : e' = e then some (castD (A := .sl e') (B := .sl e) (h ▸ rfl) xs, r) else none
  | .sl _, .nilsl :: r => some ([], r)
  | .pair a b, l => (ofCells a l).bind fun x => (ofCells b x.2).bind fun y => some ((x.1, y.1), y.2)
  | .st a, l => ofCells a l
  | .unit, l => some ((), l)
  | .ptr e, .iptr e' v 0 :: r => if h : e' = e then some (castD (A := .ptr e') (B := .ptr e) (h ▸ rfl) v, r) else none
  | .map K V, .imap K' V' es :: r => if h : K' = K ∧ V' = V then some (castD (A := .map K' V') (B := .map K V) (by rw [h.1, h.2]) es, r) else none
  | .map _ _, .nilmap :: r => some ([], r)
  | .nsl e, .nsl e' xs :: r => if h : e' = e then some (castD (A := .nsl e') (B := .nsl e) (h ▸ rfl) xs, r) else none
  | .nsl _, .nilsl :: r => some ([], r)
  | .nsl e, .isl e' xs :: r => if h : e' = e then (if xs.isEmpty = true then none else some (castD (A := .nsl e') (B := .nsl e) (h ▸ rfl) xs, r)) else none
  | _, _ => none

/-- The cells of an abstract value (as 'Value.cells'). -/
def AV.cells : AV → List AV
  | .agg cs => cs
  | v => [v]

def Ty.isAgg : Ty → Bool
  | .pair _ _ => true
  | .st _ => true
  | .unit => true
  | .int _ => false
  | .bool => false
  | .str => false
  | .sl _ => false
  | .ptr _ => false
  | .map _ _ => false
  | .nsl _ => false

def AV.isAgg : AV → Bool
  | .agg _ => true
  | _ => false

def ofAV (T : Ty) (x : AV) : Option T.D := if x.isAgg = T.isAgg then (ofCells T x.cells).bind fun y => match y.2 with | [] => some y.1 | _ => none else none

/-! ### What is known of the program's types -/

inductive TK where
  | int (k : IntKind) | bool | str | sl (e : Nat) | st (fs : List (Nat × Nat)) | ptr (e : Nat) | map (k v : Nat) | func | iface | arr (n e : Nat) | other

structure TI where
  kind : TK
  size : Nat
  bytes : Nat
  zero : List Value

/-! ### Annotations of operations -/

/-- What a called function does: of arguments and the objects that they name, in continuation style. -/
abbrev Fun := (ρ : Type) → List AV → List AO → (List AV → List AO → Option ρ) → Option ρ

/-- What a function does can be told once, and then be gone on with. -/
structure FunNat (F : Fun) where
  nat : ∀ (ρ : Type) (args : List AV) (ob : List AO) (k : List AV → List AO → Option ρ), F ρ args ob k = (F (List AV × List AO) args ob fun a b => some (a, b)).bind fun x => k x.1 x.2
  len : ∀ (args : List AV) (ob : List AO) (x : List AV × List AO), (F (List AV × List AO) args ob fun a b => some (a, b)) = some x → ob.length ≤ x.2.length
  /-- the objects that are turned: all others stay -/
  touch : List AV → List AO → List Nat
  frame : ∀ (args : List AV) (ob : List AO) (x : List AV × List AO), (F (List AV × List AO) args ob fun a b => some (a, b)) = some x → ∀ q, q < ob.length → q ∉ touch args ob → x.2.getD q .dead = ob.getD q .dead

structure Callee' where
  fid : Nat
  fits : List AV → List AO → Bool
  F : Fun
  nat : FunNat F

inductive OA : Type 1 where
  | std
  /-- made inline: never written to again -/
  | inl (T : Ty)
  /-- made as an object -/
  | obj (T : Ty)
  /-- a map made as an object -/
  | mp (K V : Ty)
  /-- structs or arrays compared -/
  | eqs (t : Nat)
  /-- a call of a Go function: whatever fits first -/
  | call (l : List Callee')
  /-- a call that leaves all objects as they are -/
  | callq (l : List Callee')
  /-- objects that are given up first: they are never written to again -/
  | frz (js : List Nat) (h : OA)
  /-- cells of what comes out that are slices and not empty: they are not nil -/
  | nn (js : List Nat) (h : OA)

/-! ### The state -/

structure St where
  sl : List AV
  ob : List AO

def St.put (s : St) (d : Option Nat) (v : AV) : St :=
  match d with
  | some d => { s with sl := s.sl.set d v }
  | none => s

def constAV1 : Value → AV
  | .int k n => .int k n
  | .bool b => .bool b
  | .string s => .str s.data.toList
  | .slice none 0 0 => .nilsl
  | .pointer none => .nilptr
  | .map none => .nilmap
  | .nilFunc => .nilfn
  | .nilIface => .nilifc
  | _ => .dead

def constAV : Value → AV
  | .agg cs => .agg (cs.toList.map constAV1)
  | .int k n => .int k n
  | .bool b => .bool b
  | .string s => .str s.data.toList
  | .slice none 0 0 => .nilsl
  | .pointer none => .nilptr
  | .map none => .nilmap
  | .nilFunc => .nilfn
  | .nilIface => .nilifc
  | _ => .dead

def ev (s : List AV) : Operand → AV
  | .tmp t => s.getD t .dead
  | .const v => constAV v
  | .global _ => .dead
  | .func f => .fn (.func f) [] []

def TK.isOther : TK → Bool
  | .other => true
  | _ => false

/-! ### Operations, in continuation style -/

section
variable {ρ : Type}

def bitsOp (op : BinOp) (k : IntKind) (x y : Int) : Int :=
  let a := BitVec.ofInt k.bits x
  let b := BitVec.ofInt k.bits y
  match op with
  | .and => k.wrap (a &&& b).toNat
  | .or => k.wrap (a ||| b).toNat
  | .xor => k.wrap (a ^^^ b).toNat
  | _ => k.wrap (a &&& ~~~b).toNat

def binInt (op : BinOp) (a : IntKind) (m n : Int) (k : AV → Option ρ) : Option ρ :=
  match op with
  | .add => k (.int a (a.wrap (m + n)))
  | .sub => k (.int a (a.wrap (m - n)))
  | .mul => k (.int a (a.wrap (m * n)))
  | .quo => if n = 0 then none else k (.int a (a.wrap (m.tdiv n)))
  | .rem => if n = 0 then none else k (.int a (m.tmod n))
  | .and => k (.int a (bitsOp .and a m n))
  | .or => k (.int a (bitsOp .or a m n))
  | .xor => k (.int a (bitsOp .xor a m n))
  | .andNot => k (.int a (bitsOp .andNot a m n))
  | .eql => k (.bool (m == n))
  | .neq => k (.bool (m != n))
  | .lss => k (.bool (decide (m < n)))
  | .leq => k (.bool (decide (m ≤ n)))
  | .gtr => k (.bool (decide (m > n)))
  | .geq => k (.bool (decide (m ≥ n)))
  | .shl => none
  | .shr => none

def binStr (op : BinOp) (s t : List UInt8) (k : AV → Option ρ) : Option ρ :=
  match op with
  | .add => if s.length + t.length ≤ 9223372036854775807 then k (.str (s ++ t)) else none
  | .eql => k (.bool (s == t))
  | .neq => k (.bool (!(s == t)))
  | .lss => k (.bool (Op.bytesLess s t))
  | .leq => k (.bool (Op.bytesLess s t || s == t))
  | .gtr => k (.bool (!(Op.bytesLess s t || s == t)))
  | .geq => k (.bool (!Op.bytesLess s t))
  | _ => none

def binK (TT : Nat → TI) (t : Nat) (op : BinOp) (x y : AV) (k : AV → Option ρ) : Option ρ :=
  match x, y with
  | .int a m, .int b n =>
    match op with
    | .shl => if 0 ≤ n then k (.int a (a.wrap (m * 2 ^ (min n.toNat a.bits)))) else none
    | .shr => if 0 ≤ n then k (.int a (m.fdiv (2 ^ (min n.toNat a.bits)))) else none
    | op => if a = b then binInt op a m n k else none
  | .str s, .str t => binStr op s t k
  | .bool a, .bool b =>
    match (TT t).kind, op with
    | .bool, .eql => k (.bool (a == b))
    | .bool, .neq => k (.bool (!(a == b)))
    | _, _ => none
  | _, _ => none

/-- Both ways end alike. -/
noncomputable def agree (a b : Option ρ) : Option ρ := open Classical in if a = b then a else none

def eqAV : TK → AV → AV → Option Bool
  | .int _, .int a m, .int b n => if a = b then some (m == n) else none
  | .str, .str s, .str t => some (s == t)
  | .bool, .bool a, .bool b => some (a == b)
  | _, _, _ => none

def eqCells : List TK → List AV → List AV → Option Bool
  | [], [], [] => some true
  | [q], [x], [y] => eqAV q x y
  | q :: p :: l, x :: r, y :: s => (eqAV q x y).bind fun a => (eqCells (p :: l) r s).bind fun b => some (a && b)
  | _, _, _ => none

def offsOk : List (Nat × Nat) → Nat → Bool
  | [], _ => true
  | f :: r, i => f.2 == i && offsOk r (i + 1)

/-- The kinds of the cells of a struct of plain fields, of an array of plain elements. -/
def kindsOf (TT : Nat → TI) (t : Nat) : Option (List TK) :=
  match (TT t).kind with
  | .st fs =>
    match offsOk fs 0 with
    | true => some (fs.map fun f => (TT f.1).kind)
    | false => none
  | .arr n e =>
    match (TT e).size == 1 && !(TT e).kind.isOther with
    | true => some (List.replicate n (TT e).kind)
    | false => none
  | _ => none

/-- Structs and arrays, compared cell by cell. -/
def eqsK (TT : Nat → TI) (t : Nat) (op : BinOp) (x y : AV) (k : AV → Option ρ) : Option ρ :=
  match kindsOf TT t with
  | none => none
  | some qs =>
    match x, y, op with
    | .agg cs, .agg ds, .eql => (eqCells qs cs ds).bind fun b => k (.bool b)
    | .agg cs, .agg ds, .neq => (eqCells qs cs ds).bind fun b => k (.bool (!b))
    | _, _, _ => none

/-- What is known of a comparison with nil. -/
inductive NilCmp where
  | is (b : Bool)
  | empty (b : Bool)
  | no

def nilOf (T : TK) (x : AV) (ob : List AO) : NilCmp :=
  match T, x with
  | .ptr _, .nilptr => .is true
  | .ptr _, .ptr _ _ _ => .is false
  | .ptr _, .iptr _ _ _ => .is false
  | .map _ _, .nilmap => .is true
  | .map _ _, .map j =>
    match ob.getD j .dead with
    | .map _ _ _ => .is false
    | _ => .no
  | .func, .nilfn => .is true
  | .func, .fn _ _ _ => .is false
  | .sl _, .nilsl => .is true
  | .sl _, .isl _ xs => .empty xs.isEmpty
  | .sl _, .nsl _ xs => .is xs.isEmpty
  | .sl _, .slw j =>
    match ob.getD j .dead with
    | .arr _ xs => .empty xs.isEmpty
    | _ => .no
  | .sl _, .sl j _ len =>
    match ob.getD j .dead with
    | .arr _ _ => .empty (len == 0)
    | _ => .no
  | _, _ => .no

def isNil : TK → AV → Bool
  | .ptr _, .nilptr => true
  | .map _ _, .nilmap => true
  | .func, .nilfn => true
  | .sl _, .nilsl => true
  | _, _ => false

noncomputable def nilGo (c : NilCmp) (neg : Bool) (k : AV → Option ρ) : Option ρ :=
  match c with
  | .is b => k (.bool (b ^^ neg))
  | .empty b => if b = true then agree (k (.bool (true ^^ neg))) (k (.bool (false ^^ neg))) else k (.bool (false ^^ neg))
  | .no => none

/-- A comparison with nil. -/
noncomputable def nilK (TT : Nat → TI) (t : Nat) (op : BinOp) (x y : AV) (ob : List AO) (k : AV → Option ρ) : Option ρ :=
  match op with
  | .eql => if isNil (TT t).kind y = true then nilGo (nilOf (TT t).kind x ob) false k else none
  | .neq => if isNil (TT t).kind y = true then nilGo (nilOf (TT t).kind x ob) true k else none
  | _ => none

/-- A comparison of a pointer or a function with nil: it looks at no object. -/
def nilPK (TT : Nat → TI) (t : Nat) (op : BinOp) (x y : AV) (k : AV → Option ρ) : Option ρ :=
  match isNil (TT t).kind y with
  | false => none
  | true =>
    match op, (TT t).kind, x with
    | .eql, .ptr _, .nilptr => k (.bool true)
    | .eql, .ptr _, .ptr _ _ _ => k (.bool false)
    | .eql, .ptr _, .iptr _ _ _ => k (.bool false)
    | .neq, .ptr _, .nilptr => k (.bool false)
    | .neq, .ptr _, .ptr _ _ _ => k (.bool true)
    | .neq, .ptr _, .iptr _ _ _ => k (.bool true)
    | _, _, _ => none

def pickK (b : Bool) (x y : AV) (k : AV → Option ρ) : Option ρ :=
  match b with
  | true => k x
  | false => k y

def unK (op : UnOp) (x : AV) (k : AV → Option ρ) : Option ρ :=
  match op, x with
  | .not, .bool b => k (.bool (!b))
  | .neg, .int a n => k (.int a (a.wrap (0 - n)))
  | .xor, .int a n => k (.int a (bitsOp .xor a (if a.signed then -1 else a.max) n))
  | _, _ => none

def partAV (ag : Bool) (sub size : Nat) (cs : List AV) : AV :=
  if ag then .agg ((cs.drop sub).take size) else cs.getD sub .dead

def TK.isAgg : TK → Bool
  | .st _ => true
  | .arr _ _ => true
  | _ => false

def loadCs (TT : Nat → TI) (t sub : Nat) (cs : List AV) (k : AV → Option ρ) : Option ρ :=
  if (TT t).kind.isOther = true then none
  else if sub + (if (TT t).kind.isAgg = true then (TT t).size else 1) ≤ cs.length then k (partAV (TT t).kind.isAgg sub (TT t).size cs) else none

def loadK (TT : Nat → TI) (t : Nat) (p : AV) (ob : List AO) (k : AV → Option ρ) : Option ρ :=
  match p with
  | .iptr T v sub => loadCs TT t sub (cellsAV T v) k
  | .ptr j i sub =>
    match ob.getD j .dead with
    | .arr T xs => loadCs TT t sub (cellsAV T (xs.getD i T.dflt)) k
    | .box cs => loadCs TT t sub cs k
    | _ => none
  | .fptr v => loadCs TT t 0 [v] k
  | _ => none

def setCells : List AV → Nat → List AV → List AV
  | cs, _, [] => cs
  | cs, n, v :: vs => setCells (cs.set n v) (n + 1) vs

/-- What may lie in a cell. -/
def cellOk : AV → Bool
  | .agg _ | .tup _ | .undef | .dead | .fsl _ | .fptr _ => false
  | _ => true

def storeK (TT : Nat → TI) (t : Nat) (p v : AV) (ob : List AO) (k : List AO → Option ρ) : Option ρ :=
  match p with
  | .ptr j i sub =>
    if (TT t).kind.isOther = false ∧ v.cells.length = (TT t).size ∧ v.cells.all cellOk = true then
      match ob.getD j .dead with
      | .arr T xs => if sub + v.cells.length ≤ T.size then (ofCells T (setCells (cellsAV T (xs.getD i T.dflt)) sub v.cells)).bind fun y => k (ob.set j (.arr T (xs.set i y.1))) else none
      | .box cs => if sub + v.cells.length ≤ cs.length then k (ob.set j (.box (setCells cs sub v.cells))) else none
      | _ => none
    else none
  | _ => none

def fieldAt (TT : Nat → TI) (s f : Nat) : Option (Nat × Nat) :=
  match (TT s).kind with
  | .st fs => fs[f]?
  | _ => none

def fieldAddrK (TT : Nat → TI) (s : Nat) (p : AV) (f : Nat) (k : AV → Option ρ) : Option ρ :=
  match fieldAt TT s f with
  | some (ft, off) =>
    if (TT ft).size = 0 ∨ (TT ft).kind.isOther = true then none else
    match p with
    | .ptr j i sub => k (.ptr j i (sub + off))
    | .iptr T v sub => k (.iptr T v (sub + off))
    | _ => none
  | none => none

def fieldK (TT : Nat → TI) (s : Nat) (x : AV) (f : Nat) (k : AV → Option ρ) : Option ρ :=
  match fieldAt TT s f with
  | some (ft, off) =>
    match x with
    | .agg cs => loadCs TT ft off cs k
    | _ => none
  | none => none

def indexAddrK (TT : Nat → TI) (t : Nat) (x i : AV) (ob : List AO) (k : AV → Option ρ) : Option ρ :=
  match (TT t).kind, i with
  | .sl e, .int _ i =>
    match x with
    | .isl T xs => if (TT e).size = T.size ∧ (TT e).kind.isOther = false then (if 0 ≤ i ∧ i < xs.length then k (.iptr T (xs.getD i.toNat T.dflt) 0) else none) else none
    | .slw j =>
      match ob.getD j .dead with
      | .arr T xs => if (TT e).size = T.size ∧ (TT e).kind.isOther = false then (if 0 ≤ i ∧ i < xs.length then k (.ptr j i.toNat 0) else none) else none
      | _ => none
    | .sl j off len =>
      match ob.getD j .dead with
      | .arr T _ => if (TT e).size = T.size ∧ (TT e).kind.isOther = false then (if 0 ≤ i ∧ i < len then k (.ptr j (off + i.toNat) 0) else none) else none
      | _ => none
    | .fsl vs => if (TT e).size = 1 ∧ (TT e).kind.isOther = false then (if 0 ≤ i ∧ i < vs.length then k (.fptr (vs.getD i.toNat .dead)) else none) else none
    | _ => none
  | .arr n e, .int _ i =>
    if (TT e).kind.isOther = false then
      (if 0 ≤ i ∧ i < n then
        match x with
        | .ptr j q sub => k (.ptr j q (sub + i.toNat * (TT e).size))
        | .iptr T v sub => k (.iptr T v (sub + i.toNat * (TT e).size))
        | _ => none
      else none)
    else none
  | _, _ => none

def indexK (TT : Nat → TI) (t : Nat) (x i : AV) (k : AV → Option ρ) : Option ρ :=
  match (TT t).kind, x, i with
  | .str, .str s, .int _ i => if 0 ≤ i ∧ i < s.length then k (.int .u8 (s.getD i.toNat 0).toNat) else none
  | _, _, _ => none

def lenAO : AO → Nat
  | .arr _ xs => xs.length
  | .map _ _ es => es.length
  | _ => 0

def boundK (lo hi : Option AV) (n : Nat) (k : Int → Int → Option ρ) : Option ρ :=
  match lo, hi with
  | none, none => k 0 n
  | some (.int _ l), none => if 0 ≤ l ∧ l ≤ n then k l n else none
  | none, some (.int _ h) => if 0 ≤ h ∧ h ≤ n then k 0 h else none
  | some (.int _ l), some (.int _ h) => if 0 ≤ l ∧ l ≤ h ∧ h ≤ n then k l h else none
  | _, _ => none

def cut {α : Type} (lo hi : Option AV) (xs : List α) (l h : Int) : List α :=
  match lo, hi with
  | none, none => xs
  | some _, none => xs.drop l.toNat
  | none, some _ => xs.take h.toNat
  | some _, some _ => (xs.take h.toNat).drop l.toNat

/-- A piece with a bound on its room, of an inline slice. -/
def slice3K (TT : Nat → TI) (t : Nat) (x : AV) (lo hi : Option AV) (mx : AV) (k : AV → Option ρ) : Option ρ :=
  match (TT t).kind, x, lo, hi, mx with
  | .sl e, .isl T xs, some (.int _ l), some (.int _ h), .int _ c =>
    if ((TT e).size = T.size ∧ (TT e).kind.isOther = false) ∧ 0 ≤ l ∧ l ≤ h ∧ h ≤ c ∧ c ≤ xs.length then k (.isl T ((xs.take h.toNat).drop l.toNat)) else none
  | _, _, _, _, _ => none

def sliceK (TT : Nat → TI) (t : Nat) (x : AV) (lo hi mx : Option AV) (ob : List AO) (k : AV → Option ρ) : Option ρ :=
  match mx with
  | some m => slice3K TT t x lo hi m k
  | none =>
    match (TT t).kind with
    | .str =>
      match x with
      | .str s => boundK lo hi s.length fun l h => k (.str (cut lo hi s l h))
      | _ => none
    | .sl e =>
      match x with
      | .isl T xs => if (TT e).size = T.size ∧ (TT e).kind.isOther = false then boundK lo hi xs.length fun l h => k (.isl T (cut lo hi xs l h)) else none
      | .nilsl => if (TT e).kind.isOther = false then boundK lo hi 0 fun _ _ => k .nilsl else none
      | .slw j =>
        match ob.getD j .dead with
        | .arr T xs => if (TT e).size = T.size ∧ (TT e).kind.isOther = false then boundK lo hi xs.length fun l h => k (.sl j l.toNat (h - l).toNat) else none
        | _ => none
      | .sl j off len =>
        match ob.getD j .dead with
        | .arr T _ => if (TT e).size = T.size ∧ (TT e).kind.isOther = false then boundK lo hi len fun l h => k (.sl j (off + l.toNat) (h - l).toNat) else none
        | _ => none
      | _ => none
    | _ => none

/-- The objects that a slicing may look at: none where it is of an inline slice. -/
def sliceOb (h : OA) (ob : List AO) : List AO :=
  match h with
  | .inl _ => []
  | _ => ob

/-- What a slice holds, as a list. -/
def listOf (T : Ty) (x : AV) (ob : List AO) : Option (List T.D) :=
  match x with
  | .nilsl => some []
  | .isl T' xs => if h : T' = T then some (castD (A := .sl T') (B := .sl T) (h ▸ rfl) xs) else none
  | .slw j =>
    match ob.getD j .dead with
    | .arr T' xs => if h : T' = T then some (castD (A := .sl T') (B := .sl T) (h ▸ rfl) xs) else none
    | _ => none
  | .sl j off len =>
    match ob.getD j .dead with
    | .arr T' xs => if h : T' = T then some (castD (A := .sl T') (B := .sl T) (h ▸ rfl) ((xs.drop off).take len)) else none
    | _ => none
  | .str s =>
    match T with
    | .int .u8 => some (s.map fun b => (b.toNat : Int))
    | _ => none
  | _ => none

def refOf : AV → Option Nat
  | .slw j => some j
  | .sl j _ _ => some j
  | .ptr j _ _ => some j
  | .map j => some j
  | _ => none

/-- The object of a slice that is appended to is gone behind the append. -/
def killOf (x : AV) (ob : List AO) : List AO :=
  match x with
  | .slw j => ob.set j .dead
  | .sl j _ _ => ob.set j .dead
  | _ => ob

def isOwn : AV → Bool
  | .nilsl => true
  | .slw _ => true
  | .sl _ _ _ => true
  | _ => false

def roomOk (n bytes : Nat) : Prop := 0 < bytes ∧ n * bytes ≤ 140737488355328
instance (n bytes : Nat) : Decidable (roomOk n bytes) := by unfold roomOk; exact inferInstance

def TK.rowish : TK → Bool
  | .sl _ => true
  | .str => true
  | _ => false

def appendK (TT : Nat → TI) (T : Ty) (t u : Nat) (x y : AV) (ob : List AO) (k : AV → List AO → Option ρ) : Option ρ :=
  match (TT t).kind with
  | .sl e =>
    if (TT e).size = T.size ∧ 0 < T.size ∧ (TT e).kind.isOther = false ∧ isOwn x = true ∧ (TT u).kind.rowish = true ∧ (TT e).zero.length = T.size then
      match listOf T x ob, listOf T y ob with
      | some xs, some ys => if roomOk (xs.length + ys.length) (TT e).bytes then k (.slw ob.length) (killOf x ob ++ [.arr T (xs ++ ys)]) else none
      | _, _ => none
    else none
  | _ => none

def lenK (TT : Nat → TI) (t : Nat) (x : AV) (ob : List AO) (k : AV → Option ρ) : Option ρ :=
  match (TT t).kind, x with
  | .str, .str s => k (.int .i64 s.length)
  | .sl _, .isl _ xs => k (.int .i64 xs.length)
  | .sl _, .fsl vs => k (.int .i64 vs.length)
  | .sl _, .nilsl => k (.int .i64 0)
  | .map _ _, .nilmap => k (.int .i64 0)
  | .sl _, .slw j =>
    match ob.getD j .dead with
    | .arr _ xs => k (.int .i64 xs.length)
    | _ => none
  | .sl _, .sl j _ len =>
    match ob.getD j .dead with
    | .arr _ _ => k (.int .i64 len)
    | _ => none
  | .map _ _, .map j =>
    match ob.getD j .dead with
    | .map _ _ es => k (.int .i64 es.length)
    | _ => none
  | _, _ => none

/-- A map's entries. -/
structure MapAV where
  K : Ty
  V : Ty
  es : List (K.D × V.D)

def mapOf (x : AV) (ob : List AO) : Option MapAV :=
  match x with
  | .imap K V es => some ⟨K, V, es⟩
  | .map j =>
    match ob.getD j .dead with
    | .map K V es => some ⟨K, V, es⟩
    | _ => none
  | _ => none

def keyOk : TK → Ty → Bool
  | .int k, .int k' => decide (k = k')
  | .str, .str => true
  | .bool, .bool => true
  | _, _ => false

def TK.isSl : TK → Bool
  | .sl _ => true
  | _ => false

/-- How many are copied, and what the row is then. -/
def copyRow {α : Type} (xs ys : List α) (off len : Nat) : List α := xs.take off ++ ys.take len ++ xs.drop (off + min len ys.length)

def copyK (TT : Nat → TI) (T : Ty) (t : Nat) (x y : AV) (ob : List AO) (k : AV → List AO → Option ρ) : Option ρ :=
  match (TT t).kind with
  | .sl e =>
    if (TT e).size = T.size ∧ 0 < T.size ∧ (TT e).kind.isOther = false then
      match x with
      | .slw j =>
        match listOf T x ob, listOf T y ob with
        | some xs, some ys => k (.int .i64 (min xs.length ys.length : Nat)) (ob.set j (.arr T (copyRow xs ys 0 xs.length)))
        | _, _ => none
      | .sl j off len =>
        match listOf T (.slw j) ob, listOf T y ob with
        | some xs, some ys => k (.int .i64 (min len ys.length : Nat)) (ob.set j (.arr T (copyRow xs ys off len)))
        | _, _ => none
      | _ => none
    else none
  | _ => none

def mxK (mx : Bool) : List AV → (AV → Option ρ) → Option ρ
  | .int a m :: rest, k => go a m rest k
  | _, _ => none
where
  go (a : IntKind) (m : Int) : List AV → (AV → Option ρ) → Option ρ
    | [], k => k (.int a m)
    | .int _ n :: rest, k => go a (if mx then (if n > m then n else m) else (if n < m then n else m)) rest k
    | _, _ => none

def convertK (TT : Nat → TI) (h : OA) (src dst : Nat) (x : AV) (ob : List AO) (k : AV → List AO → Option ρ) : Option ρ :=
  match (TT src).kind, (TT dst).kind, x with
  | _, .int b, .int _ n => k (.int b (b.wrap n)) ob
  | _, .str, .str s => k (.str s) ob
  | .str, .sl e, .str s =>
    match (TT e).kind, h with
    | .int .u8, .inl _ => k (.isl (.int .u8) (s.map fun b => (b.toNat : Int))) ob
    | .int .u8, .obj _ => k (.slw ob.length) (ob ++ [.arr (.int .u8) (s.map fun b => (b.toNat : Int))])
    | _, _ => none
  | .sl e, .str, x =>
    match (TT e).kind with
    | .int .u8 => (listOf (.int .u8) x ob).bind fun xs => k (.str (xs.map fun (n : Int) => UInt8.ofNat n.toNat)) ob
    | _ => none
  | _, _, _ => none

/-- The zero value's cells are the datum 'dflt'. -/
def zeroOk : Ty → List Value → Bool
  | .int k, [.int k' n] => decide (k' = k) && decide (n = 0)
  | .bool, [.bool b] => !b
  | .str, [.string s] => s.data.toList.isEmpty
  | .sl _, [.slice none 0 _] => true
  | .nsl _, [.slice none 0 0] => true
  | .pair a b, l => zeroOk a (l.take a.size) && zeroOk b (l.drop a.size)
  | .st a, l => zeroOk a l
  | .unit, [] => true
  | _, _ => false

def makeSliceK (TT : Nat → TI) (T : Ty) (t : Nat) (l c : AV) (ob : List AO) (k : AV → List AO → Option ρ) : Option ρ :=
  match (TT t).kind, l, c with
  | .sl e, .int _ l, .int _ c =>
    if (TT e).size = T.size ∧ 0 < T.size ∧ (TT e).kind.isOther = false ∧ zeroOk T (TT e).zero = true then
      if 0 ≤ l ∧ l ≤ c ∧ c * (TT e).bytes ≤ 140737488355328 ∧ c ≤ 9223372036854775807 then k (.slw ob.length) (ob ++ [.arr T (List.replicate l.toNat T.dflt)]) else none
    else none
  | _, _, _ => none

/-- n zeros appended to nil ('append([]T(nil), make([]T, n)...)'). -/
def appendZK (TT : Nat → TI) (T : Ty) (t u : Nat) (x y : AV) (ob : List AO) (k : AV → List AO → Option ρ) : Option ρ :=
  match (TT t).kind, (TT u).kind, x, y with
  | .sl e, .int _, .nilsl, .int .i64 n =>
    if (TT e).size = T.size ∧ 0 < T.size ∧ (TT e).kind.isOther = false ∧ zeroOk T (TT e).zero = true then
      if 0 ≤ n ∧ n ≤ 9223372036854775807 ∧ roomOk n.toNat (TT e).bytes then k (.slw ob.length) (ob ++ [.arr T (List.replicate n.toNat T.dflt)]) else none
    else none
  | _, _, _, _ => none

/-- A map, or a row's part, is made empty. -/
def clearK (TT : Nat → TI) (t : Nat) (x : AV) (ob : List AO) (k : AV → List AO → Option ρ) : Option ρ :=
  match (TT t).kind, x with
  | .map _ _, .map j =>
    match ob.getD j .dead with
    | .map K V _ => k (.tup []) (ob.set j (.map K V []))
    | _ => none
  | .sl e, .slw j =>
    match ob.getD j .dead with
    | .arr T xs => if (TT e).size = T.size ∧ (TT e).kind.isOther = false ∧ zeroOk T (TT e).zero = true then k (.tup []) (ob.set j (.arr T (List.replicate xs.length T.dflt))) else none
    | _ => none
  | .sl e, .sl j off len =>
    match ob.getD j .dead with
    | .arr T xs => if (TT e).size = T.size ∧ (TT e).kind.isOther = false ∧ zeroOk T (TT e).zero = true then k (.tup []) (ob.set j (.arr T (xs.take off ++ List.replicate len T.dflt ++ xs.drop (off + len)))) else none
    | _ => none
  | _, _ => none

def valOk (V : Ty) (i : TI) : Bool := decide (i.size = V.size) && (i.kind.isAgg == V.isAgg) && !i.kind.isOther && zeroOk V i.zero

def lookupK (TT : Nat → TI) (t : Nat) (x i : AV) (ok : Bool) (ob : List AO) (k : AV → Option ρ) : Option ρ :=
  match (TT t).kind with
  | .map kt vt =>
    match mapOf x ob with
    | some m =>
      if keyOk (TT kt).kind m.K = true ∧ valOk m.V (TT vt) = true then
        (ofAV m.K i).bind fun key =>
          match ok with
          | true => k (.tup [toAV m.V ((mget m.es key).getD m.V.dflt), .bool (mget m.es key).isSome])
          | false => k (toAV m.V ((mget m.es key).getD m.V.dflt))
      else none
    | none => none
  | _ => none

def mapUpdateK (TT : Nat → TI) (t : Nat) (x i v : AV) (ob : List AO) (k : List AO → Option ρ) : Option ρ :=
  match (TT t).kind, x with
  | .map kt vt, .map j =>
    match ob.getD j .dead with
    | .map K V es =>
      if keyOk (TT kt).kind K = true ∧ valOk V (TT vt) = true then
        (ofAV K i).bind fun key => (ofAV V v).bind fun d => k (ob.set j (.map K V (mput es key d)))
      else none
    | _ => none
  | _, _ => none

/-- The elements of a literal. -/
def litList (T : Ty) : List (Nat × AV) → List T.D → Option (List T.D)
  | [], xs => some xs
  | (i, v) :: r, xs => if i < xs.length then (ofAV T v).bind fun d => litList T r (xs.set i d) else none

def buildSliceK (TT : Nat → TI) (h : OA) (t len : Nat) (parts : List (Nat × AV)) (ob : List AO) (k : AV → List AO → Option ρ) : Option ρ :=
  match (TT t).kind with
  | .sl e =>
    match h with
    | .inl T => if (TT e).size = T.size ∧ 0 < T.size ∧ (TT e).kind.isOther = false ∧ zeroOk T (TT e).zero = true ∧ len * T.size ≤ 16777216 then (litList T parts (List.replicate len T.dflt)).bind fun xs => k (.isl T xs) ob else none
    | .obj T => if (TT e).size = T.size ∧ 0 < T.size ∧ (TT e).kind.isOther = false ∧ zeroOk T (TT e).zero = true ∧ len * T.size ≤ 16777216 then (litList T parts (List.replicate len T.dflt)).bind fun xs => k (.slw ob.length) (ob ++ [.arr T xs]) else none
    | .std => if (TT e).size = 1 ∧ (TT e).kind.isOther = false ∧ (TT e).kind.isAgg = false ∧ (TT e).zero.length = 1 ∧ len ≤ 16777216 ∧ 0 < len ∧ parts.map (·.1) = List.range len ∧ parts.all (fun p => cellOk p.2) = true then k (.fsl (parts.map (·.2))) ob else none
    | _ => none
  | _ => none

def buildCells (fs : List (Nat × Nat)) (TT : Nat → TI) : List (Nat × AV) → List AV → Option (List AV)
  | [], cs => some cs
  | (i, v) :: r, cs =>
    match fs[i]? with
    | some (ft, off) => if v.cells.length = (TT ft).size ∧ off + v.cells.length ≤ cs.length ∧ v.cells.all cellOk = true then buildCells fs TT r (setCells cs off v.cells) else none
    | none => none

def buildK (TT : Nat → TI) (t : Nat) (parts : List (Nat × AV)) (k : AV → Option ρ) : Option ρ :=
  match (TT t).kind with
  | .st fs =>
    if fs.all (fun f => !(TT f.1).kind.isOther) = true then
      match buildCells fs TT parts ((TT t).zero.map constAV1) with
      | some cs => k (.agg cs)
      | none => none
    else none
  | .arr m e =>
    if (TT e).kind.isOther = false then
      match buildCells ((List.range m).map fun i => (e, i * (TT e).size)) TT parts ((TT t).zero.map constAV1) with
      | some cs => k (.agg cs)
      | none => none
    else none
  | _ => none

def boxK (h : OA) (v : AV) (ob : List AO) (k : AV → List AO → Option ρ) : Option ρ :=
  match h with
  | .inl T => if 0 < T.size then (ofAV T v).bind fun d => k (.iptr T d 0) ob else none
  | _ => if v.cells.all cellOk = true then k (.ptr ob.length 0 0) (ob ++ [.box v.cells]) else none

/-- What may be nil, where it is not asked. -/
def AV.fg : AV → AV
  | .nsl T xs => .isl T xs
  | x => x

/-! #### Calls -/

/-- A value that names no object. -/
def flat : AV → Bool
  | .int _ _ | .bool _ | .str _ | .isl _ _ | .nsl _ _ | .iptr _ _ _ | .imap _ _ _ | .nilsl | .nilptr | .nilmap | .nilfn | .nilifc | .fn _ [] [] => true
  | _ => false

def flatArg : AV → Bool
  | .agg cs => cs.all flat
  | x => flat x

def resAV : List AV → AV
  | [v] => v
  | vs => .tup vs

/-- The first callee that fits. -/
def pickC : List Callee' → Nat → List AV → List AO → Option Callee'
  | [], _, _, _ => none
  | c :: r, g, args, ob =>
    match c.fid == g && c.fits args ob with
    | true => some c
    | false => pickC r g args ob

def callK (l : List Callee') (g : Nat) (args : List AV) (ob : List AO) (k : AV → List AO → Option ρ) : Option ρ :=
  match pickC l g args ob with
  | some c => c.F ρ args ob fun res ob' => k (resAV res) ob'
  | none => none

def callQ (l : List Callee') (g : Nat) (args : List AV) (ob : List AO) (k : AV → List AO → Option ρ) : Option ρ :=
  match pickC l g args ob with
  | some c => c.F ρ args ob fun res _ => k (resAV res) ob
  | none => none

noncomputable def opK (TT : Nat → TI) (h : OA) (o : Op) (s : List AV) (ob : List AO) (k : AV → List AO → Option ρ) : Option ρ :=
  match o with
  | .move x | .assign x => k (ev s x) ob
  | .pick c a b =>
    match ev s c with
    | .bool t => pickK t (ev s a) (ev s b) fun v => k v ob
    | _ => none
  | .binOp op t x y _ =>
    match h with
    | .eqs t' =>
      match t' == t with
      | true => eqsK TT t op (ev s x) (ev s y) fun v => k v ob
      | false => none
    | .obj _ => nilK TT t op (ev s x) (ev s y) ob fun v => k v ob
    | .inl _ => nilPK TT t op (ev s x) (ev s y) fun v => k v ob
    | _ => binK TT t op (ev s x) (ev s y) fun v => k v ob
  | .unOp op _ x => unK op (ev s x) fun v => k v ob
  | .load t p => loadK TT t (ev s p) ob fun v => k v ob
  | .store t p v => storeK TT t (ev s p) (ev s v) ob fun ob' => k .undef ob'
  | .fieldAddr t p f => fieldAddrK TT t (ev s p) f fun v => k v ob
  | .field t x f => fieldK TT t (ev s x) f fun v => k v ob
  | .indexAddr t x i => indexAddrK TT t (ev s x).fg (ev s i) ob fun v => k v ob
  | .index t x i => indexK TT t (ev s x) (ev s i) fun v => k v ob
  | .slice t x lo hi mx => sliceK TT t (ev s x).fg (lo.map (ev s)) (hi.map (ev s)) (mx.map (ev s)) (sliceOb h ob) fun v => k v ob
  | .convert src dst x => if (TT src).kind.isOther = true then none else convertK TT h src dst (ev s x) ob k
  | .makeSlice t l c =>
    match h with
    | .obj T => makeSliceK TT T t (ev s l) (ev s c) ob k
    | _ => none
  | .buildSlice t len parts => buildSliceK TT h t len (parts.toList.map fun p => (p.1, ev s p.2)) ob k
  | .build t parts => buildK TT t (parts.toList.map fun p => (p.1, ev s p.2)) fun v => k v ob
  | .box _ x => boxK h (ev s x) ob k
  | .alloc t => if (TT t).kind.isOther = false ∧ (TT t).zero ≠ [] then k (.ptr ob.length 0 0) (ob ++ [.box ((TT t).zero.map constAV1)]) else none
  | .extract x i =>
    match ev s x with
    | .tup vs => if i < vs.length then k (vs.getD i .dead) ob else none
    | _ => none
  | .makeFunc fn first cap => k (.fn fn (first.toList.map (ev s)) (cap.toList.map (ev s))) ob
  | .makeMap t none =>
    match h, (TT t).kind with
    | .mp K V, .map kt vt => if keyOk (TT kt).kind K = true ∧ valOk V (TT vt) = true then k (.map ob.length) (ob ++ [.map K V []]) else none
    | _, _ => none
  | .lookup t x i ok => lookupK TT t (ev s x) (ev s i) ok ob fun v => k v ob
  | .mapUpdate t m i v => mapUpdateK TT t (ev s m) (ev s i) (ev s v) ob fun ob' => k .undef ob'
  | .insert t m i v => mapUpdateK TT t (ev s m) (ev s i) (ev s v) ob fun ob' => k .undef ob'
  | .nilCheck x =>
    match ev s x with
    | .ptr j i sub => k (.ptr j i sub) ob
    | .iptr T v sub => k (.iptr T v sub) ob
    | _ => none
  | .call { callee := .builtin b, args, argTypes } =>
    match b, args.toList, argTypes.toList with
    | .len, [x], [t] => lenK TT t (ev s x).fg ob fun v => k v ob
    | .append, [x, y], [t, u] =>
      match h with
      | .obj T => appendK TT T t u (ev s x) (ev s y).fg ob k
      | .inl T => appendZK TT T t u (ev s x) (ev s y) ob k
      | _ => none
    | .copy, [x, y], [t, _] =>
      match h with
      | .obj T => copyK TT T t (ev s x) (ev s y).fg ob k
      | _ => none
    | .clear, [x], [t] => clearK TT t (ev s x) ob k
    | .cap, [x], [t] =>
      match (TT t).kind, ev s x with
      | .sl _, .nilsl => k (.int .i64 0) ob
      | _, _ => none
    | .min, l, _ => mxK false (l.map (ev s)) fun v => k v ob
    | .max, l, _ => mxK true (l.map (ev s)) fun v => k v ob
    | _, _, _ => none
  | .call { callee := .value f, args, .. } =>
    match h, ev s f with
    | .call l, .fn (.func g) first cap => callK l g (first ++ args.toList.map (ev s) ++ cap) ob k
    | .callq l, .fn (.func g) first cap => callQ l g (first ++ args.toList.map (ev s) ++ cap) ob k
    | _, _ => none
  | _ => none

/-! #### Objects that are given up -/

def frz1 (j : Nat) (T : Ty) (xs : List T.D) : AV → AV
  | .slw i => if i = j then .isl T xs else .slw i
  | .sl i off len => if i = j then .isl T ((xs.drop off).take len) else .sl i off len
  | x => x

def frzA (j : Nat) (T : Ty) (xs : List T.D) : AV → AV
  | .agg cs => .agg (cs.map (frz1 j T xs))
  | .tup cs => .tup (cs.map (frz1 j T xs))
  | x => frz1 j T xs x

def frzO (j : Nat) (T : Ty) (xs : List T.D) : AO → AO
  | .box cs => .box (cs.map (frz1 j T xs))
  | o => o

/-- An array of the call's own is given up: it is never written to again. -/
def St.frz (st : St) (j : Nat) : St :=
  match st.ob.getD j .dead with
  | .arr T xs => ⟨st.sl.map (frzA j T xs), (st.ob.map (frzO j T xs)).set j .dead⟩
  | _ => st

def OA.pre : OA → List Nat
  | .frz js _ => js
  | _ => []

def OA.bare : OA → OA
  | .frz _ (.nn _ h) => h
  | .frz _ h => h
  | .nn _ h => h
  | h => h

def OA.nns : OA → List Nat
  | .frz _ (.nn js _) => js
  | .nn js _ => js
  | _ => []

/-! #### Slices that are not nil, for they are not empty -/

def nn1 (x : AV) (k : AV → Option ρ) : Option ρ :=
  match x with
  | .isl T xs => if xs.isEmpty = true then none else k (.nsl T xs)
  | x => k x

def nnL : List Nat → List AV → (List AV → Option ρ) → Option ρ
  | [], cs, k => k cs
  | i :: is, cs, k => nn1 (cs.getD i .dead) fun x => nnL is (cs.set i x) k

def nnV (is : List Nat) (v : AV) (k : AV → Option ρ) : Option ρ :=
  match is with
  | [] => k v
  | _ :: _ =>
    match v with
    | .agg cs => nnL is cs fun cs => k (.agg cs)
    | v => nn1 v k

def St.frzAll (st : St) : List Nat → St
  | [] => st
  | j :: js => (st.frz j).frzAll js

noncomputable def opsK (TT : Nat → TI) (all : List Oper) : List Oper → List OA → St → (St → Option ρ) → Option ρ
  | [], _, st, k => k st
  | o :: os, hs, st0, k =>
    let st := st0.frzAll (hs.headD .std).pre
    match o.guard with
    | none => opK TT (hs.headD .std).bare o.op st.sl st.ob fun v ob => nnV (hs.headD .std).nns v fun v => opsK TT all os hs.tail (({ st with ob := ob } : St).put o.dst v) k
    | some (g, want) =>
      match (all[g]?).bind (·.dst) with
      | none => none
      | some d =>
        match st.sl.getD d .dead with
        | .bool b =>
          if b = want then
            opK TT (hs.headD .std).bare o.op (st.sl.set d (.bool want)) st.ob fun v ob => nnV (hs.headD .std).nns v fun v =>
              opsK TT all os hs.tail (({ sl := st.sl.set d (.bool want), ob := ob } : St).put o.dst v) k
          else opsK TT all os hs.tail (({ st with sl := st.sl.set d (.bool (!want)) } : St).put o.dst .undef) k
        | .undef => opsK TT all os hs.tail (st.put o.dst .undef) k
        | _ => none
end

/-! ### Typed cuts: shapes of values and objects -/

/-- The shape of values: data, places of objects, what is nil, functions with what they hold; rows of such. -/
inductive Sh where
  | v (T : Ty)
  | ref (i : Nat)
  /-- a part of a row that is an object itself -/
  | part (i : Nat)
  | nilptr
  | nilfn
  | nilmap
  | nilifc
  | nilsl
  | fn (f : Fn) (fi ca : Sh)
  /-- a slice of values that is never written to again -/
  | fsl (a : Sh)
  | nil
  | cons (a b : Sh)

/-- Nothing is left open. -/
def Sh.u : Sh → Bool
  | .v _ => false
  | .part _ => false
  | .fn _ a b => a.u && b.u
  | .fsl a => a.u
  | .cons a b => a.u && b.u
  | .ref _ => true
  | .nilptr => true
  | .nilfn => true
  | .nilmap => true
  | .nilifc => true
  | .nilsl => true
  | .nil => true

/-- Pairs, without a part of which nothing is open. -/
@[reducible] def PD (ua ub : Bool) (A B : Type) : Type :=
  match ua with
  | true => B
  | false =>
    match ub with
    | true => A
    | false => A × B

def PD.mk {A B : Type} (ua ub : Bool) (a : A) (b : B) : PD ua ub A B :=
  match ua with
  | true => b
  | false =>
    match ub with
    | true => a
    | false => (a, b)

def PD.fst {A B : Type} (a0 : A) (ua ub : Bool) (x : PD ua ub A B) : A :=
  match ua, x with
  | true, _ => a0
  | false, x =>
    match ub, x with
    | true, x => x
    | false, x => x.1

def PD.snd {A B : Type} (b0 : B) (ua ub : Bool) (x : PD ua ub A B) : B :=
  match ua, x with
  | true, x => x
  | false, x =>
    match ub, x with
    | true, _ => b0
    | false, x => x.2

@[reducible] def Sh.D : Sh → Type
  | .v T => T.D
  | .part _ => Nat × Nat
  | .fn _ a b => PD a.u b.u a.D b.D
  | .fsl a => a.D
  | .cons a b => PD a.u b.u a.D b.D
  | .ref _ => Unit
  | .nilptr => Unit
  | .nilfn => Unit
  | .nilmap => Unit
  | .nilifc => Unit
  | .nilsl => Unit
  | .nil => Unit

def Sh.d0 : (s : Sh) → s.D
  | .v T => T.dflt
  | .part _ => (0, 0)
  | .fn _ a b => PD.mk a.u b.u a.d0 b.d0
  | .fsl a => a.d0
  | .cons a b => PD.mk a.u b.u a.d0 b.d0
  | .ref _ => ()
  | .nilptr => ()
  | .nilfn => ()
  | .nilmap => ()
  | .nilifc => ()
  | .nilsl => ()
  | .nil => ()

/-- The shape of objects. -/
inductive OT where
  | dead
  | arr (T : Ty)
  | box (fs : Sh)
  | map (K V : Ty)

def OT.u : OT → Bool
  | .dead => true
  | .box fs => fs.u
  | .arr _ => false
  | .map _ _ => false

@[reducible] def OT.D : OT → Type
  | .dead => Unit
  | .arr T => List T.D
  | .box fs => fs.D
  | .map K V => List (K.D × V.D)

def OT.d0 : (o : OT) → o.D
  | .dead => ()
  | .arr _ => []
  | .box fs => fs.d0
  | .map _ _ => []

def objsU : List OT → Bool
  | [] => true
  | o :: r => o.u && objsU r

@[reducible] def objsD : List OT → Type
  | [] => Unit
  | o :: r => PD o.u (objsU r) o.D (objsD r)

def objsD0 : (l : List OT) → objsD l
  | [] => ()
  | o :: r => PD.mk o.u (objsU r) o.d0 (objsD0 r)

/-- A typed state: so many slots; the objects, of which the first np are those that came in; the slots that are known, and their values. -/
structure Spec where
  n : Nat
  np : Nat
  objs : List OT
  slots : List Nat
  vs : Sh

@[reducible] def Spec.D (s : Spec) : Type := PD (objsU s.objs) s.vs.u (objsD s.objs) s.vs.D

/-! #### Writing a state out -/

def refAV (objs : List OT) (i : Nat) (j : Nat) : AV :=
  match objs[i]? with
  | some (.arr _) => .slw j
  | some (.box _) => .ptr j 0 0
  | some (.map _ _) => .map j
  | _ => .dead

def partAV' (objs : List OT) (i : Nat) (j : Nat) (d : Nat × Nat) : AV :=
  match objs[i]? with
  | some (.arr _) => .sl j d.1 d.2
  | _ => .dead

def encL (objs : List OT) (rn : Nat → Nat) : (s : Sh) → s.D → List AV
  | .v T, d => [toAV T d]
  | .part i, d => [partAV' objs i (rn i) d]
  | .ref i, _ => [refAV objs i (rn i)]
  | .nilptr, _ => [.nilptr]
  | .nilfn, _ => [.nilfn]
  | .nilmap, _ => [.nilmap]
  | .nilifc, _ => [.nilifc]
  | .nilsl, _ => [.nilsl]
  | .fn f a b, d => [.fn f (encL objs rn a (PD.fst a.d0 a.u b.u d)) (encL objs rn b (PD.snd b.d0 a.u b.u d))]
  | .fsl a, d => [.fsl (encL objs rn a d)]
  | .nil, _ => []
  | .cons a b, d => encL objs rn a (PD.fst a.d0 a.u b.u d) ++ encL objs rn b (PD.snd b.d0 a.u b.u d)

def encO (objs : List OT) (rn : Nat → Nat) : (o : OT) → o.D → AO
  | .dead, _ => .dead
  | .arr T, xs => .arr T xs
  | .box fs, d => .box (encL objs rn fs d)
  | .map K V, es => .map K V es

def encOs (objs : List OT) (rn : Nat → Nat) : (l : List OT) → objsD l → List AO
  | [], _ => []
  | o :: r, d => encO objs rn o (PD.fst o.d0 o.u (objsU r) d) :: encOs objs rn r (PD.snd (objsD0 r) o.u (objsU r) d)

def setSlots : List Nat → List AV → List AV → List AV
  | i :: is, x :: xs, sl => setSlots is xs (sl.set i x)
  | _, _, sl => sl

def Spec.objs_ (s : Spec) (d : s.D) : objsD s.objs := PD.fst (objsD0 s.objs) (objsU s.objs) s.vs.u d
def Spec.vs_ (s : Spec) (d : s.D) : s.vs.D := PD.snd s.vs.d0 (objsU s.objs) s.vs.u d

def Spec.enc (s : Spec) (d : s.D) : St :=
  ⟨setSlots s.slots (encL s.objs id s.vs (s.vs_ d)) (List.replicate s.n .dead), encOs s.objs id s.objs (s.objs_ d)⟩

/-! #### Reading a state -/

/-- Where an object of a typed state lies in a state: an object; a part of a row; nowhere, and it has no elements. -/
inductive Whence where
  | obj (j : Nat)
  | part (j off len : Nat)
  | empty

def Whence.j : Whence → Option Nat
  | .obj j => some j
  | .part j _ _ => some j
  | .empty => none

/-- What is found while a state is read: where each object lies; which objects of the state are taken; which are given up. -/
structure Acc where
  src : List (Option Whence)
  own : List Nat
  gone : List Nat

def notIn (j : Nat) : List Nat → Bool
  | [] => true
  | i :: r =>
    match j == i with
    | true => false
    | false => notIn j r

/-- Object i of the typed state is x. -/
def Acc.add (acc : Acc) (i : Nat) (x : Whence) : Option Acc :=
  match acc.src[i]? with
  | some none =>
    match x.j with
    | none => some { acc with src := acc.src.set i (some x) }
    | some j =>
      match notIn j acc.own with
      | true => some { acc with src := acc.src.set i (some x), own := j :: acc.own }
      | false => none
  | some (some (.obj j)) =>
    match x with
    | .obj j' =>
      match j' == j with
      | true => some acc
      | false => none
    | _ => none
  | _ => none

def refSrc (o : OT) (x : AV) : Option Whence :=
  match o, x with
  | .arr _, .slw j => some (.obj j)
  | .arr _, .sl j off len => some (.part j off len)
  | .arr _, .nilsl => some .empty
  | .box _, .ptr j 0 0 => some (.obj j)
  | .map _ _, .map j => some (.obj j)
  | _, _ => none

/-- A datum of cells; objects that are met are given up (or lent). -/
def lend (ob : List AO) : (T : Ty) → List AV → List Nat → Option (T.D × List AV × List Nat)
  | .int k, x :: r, Z =>
    match x with
    | .int k' n => if k' = k then some (n, r, Z) else none
    | _ => none
  | .bool, x :: r, Z =>
    match x with
    | .bool b => some (b, r, Z)
    | _ => none
  | .str, x :: r, Z =>
    match x with
    | .str s => some (s, r, Z)
    | _ => none
  | .sl e, x :: r, Z =>
    match x with
    | .isl e' xs => if h : e' = e then some (castD (A := .sl e') (B := .sl e) (h ▸ rfl) xs, r, Z) else none
    | .nsl e' xs => if h : e' = e then some (castD (A := .sl e') (B := .sl e) (h ▸ rfl) xs, r, Z) else none
    | .nilsl => some ([], r, Z)
    | .slw j => (listOf e (.slw j) ob).bind fun xs => some (xs, r, j :: Z)
    | .sl j off len => (listOf e (.sl j off len) ob).bind fun xs => some (xs, r, j :: Z)
    | _ => none
  | .pair a b, l, Z => (lend ob a l Z).bind fun x => (lend ob b x.2.1 x.2.2).bind fun y => some ((x.1, y.1), y.2.1, y.2.2)
  | .st a, l, Z => lend ob a l Z
  | .unit, l, Z => some ((), l, Z)
  | .ptr e, x :: r, Z =>
    match x with
    | .iptr e' v 0 => if h : e' = e then some (castD (A := .ptr e') (B := .ptr e) (h ▸ rfl) v, r, Z) else none
    | .ptr j 0 0 =>
      match ob.getD j .dead with
      | .box cs =>
        if 0 < e.size then
          (lend ob e cs (j :: Z)).bind fun y =>
            match y.2.1 with
            | [] => some (y.1, r, y.2.2)
            | _ => none
        else none
      | _ => none
    | _ => none
  | .map K V, x :: r, Z =>
    match x with
    | .imap K' V' es => if h : K' = K ∧ V' = V then some (castD (A := .map K' V') (B := .map K V) (by rw [h.1, h.2]) es, r, Z) else none
    | .nilmap => some ([], r, Z)
    | .map j =>
      match ob.getD j .dead with
      | .map K' V' es => if h : K' = K ∧ V' = V then some (castD (A := .map K' V') (B := .map K V) (by rw [h.1, h.2]) es, r, j :: Z) else none
      | _ => none
    | _ => none
  | .nsl e, x :: r, Z =>
    match x with
    | .nsl e' xs => if h : e' = e then some (castD (A := .nsl e') (B := .nsl e) (h ▸ rfl) xs, r, Z) else none
    | .nilsl => some ([], r, Z)
    | .isl e' xs => if h : e' = e then (if xs.isEmpty = true then none else some (castD (A := .nsl e') (B := .nsl e) (h ▸ rfl) xs, r, Z)) else none
    | .slw j => (listOf e (.slw j) ob).bind fun xs => if xs.isEmpty = true then none else some (xs, r, j :: Z)
    | .sl j off len => (listOf e (.sl j off len) ob).bind fun xs => if xs.isEmpty = true then none else some (xs, r, j :: Z)
    | _ => none
  | _, [], _ => none

/-- A datum of a value. -/
def lendV (ob : List AO) (T : Ty) (x : AV) (Z : List Nat) : Option (T.D × List Nat) :=
  if x.isAgg = T.isAgg then
    (lend ob T x.cells Z).bind fun y =>
      match y.2.1 with
      | [] => some (y.1, y.2.2)
      | _ => none
  else none

def decL (objs : List OT) (ob : List AO) : (s : Sh) → List AV → Acc → Option (s.D × List AV × Acc)
  | .v T, x :: r, acc => (lendV ob T x acc.gone).bind fun y => some (y.1, r, { acc with gone := y.2 })
  | .ref i, x :: r, acc =>
    match objs[i]? with
    | some o => (refSrc o x).bind fun s => (acc.add i s).bind fun acc' => some ((), r, acc')
    | none => none
  | .part i, x :: r, acc =>
    match x with
    | .sl j off len =>
      match acc.src[i]? with
      | some (some (.obj j')) =>
        match j' == j with
        | true => some ((off, len), r, acc)
        | false => none
      | _ => none
    | _ => none
  | .nilptr, x :: r, acc =>
    match x with
    | .nilptr => some ((), r, acc)
    | _ => none
  | .nilfn, x :: r, acc =>
    match x with
    | .nilfn => some ((), r, acc)
    | _ => none
  | .nilmap, x :: r, acc =>
    match x with
    | .nilmap => some ((), r, acc)
    | _ => none
  | .nilifc, x :: r, acc =>
    match x with
    | .nilifc => some ((), r, acc)
    | _ => none
  | .nilsl, x :: r, acc =>
    match x with
    | .nilsl => some ((), r, acc)
    | _ => none
  | .fn f a b, x :: r, acc =>
    match x with
    | .fn f' p q =>
      if f' = f then
        (decL objs ob a p acc).bind fun y =>
          match y.2.1 with
          | [] =>
            (decL objs ob b q y.2.2).bind fun z =>
              match z.2.1 with
              | [] => some (PD.mk a.u b.u y.1 z.1, r, z.2.2)
              | _ => none
          | _ => none
      else none
    | _ => none
  | .fsl a, x :: r, acc =>
    match x with
    | .fsl p =>
      (decL objs ob a p acc).bind fun y =>
        match y.2.1 with
        | [] => some (y.1, r, y.2.2)
        | _ => none
    | _ => none
  | .nil, l, acc => some ((), l, acc)
  | .cons a b, l, acc => (decL objs ob a l acc).bind fun y => (decL objs ob b y.2.1 y.2.2).bind fun z => some (PD.mk a.u b.u y.1 z.1, z.2.1, z.2.2)
  | _, [], _ => none

def decO (objs : List OT) (ob : List AO) (o : OT) (i : Nat) (acc : Acc) : Option (o.D × Acc) :=
  match o with
  | .dead => some ((), acc)
  | .arr T =>
    match acc.src[i]? with
    | some (some (.obj j)) => (listOf T (.slw j) ob).bind fun xs => some (xs, acc)
    | some (some (.part j off len)) => (listOf T (.sl j off len) ob).bind fun xs => some (xs, acc)
    | some (some .empty) => if 0 < T.size then some ([], acc) else none
    | _ => none
  | .box fs =>
    match acc.src[i]? with
    | some (some (.obj j)) =>
      match ob.getD j .dead with
      | .box cs =>
        (decL objs ob fs cs acc).bind fun y =>
          match y.2.1 with
          | [] => some (y.1, y.2.2)
          | _ => none
      | _ => none
    | _ => none
  | .map K V =>
    match acc.src[i]? with
    | some (some (.obj j)) =>
      match ob.getD j .dead with
      | .map K' V' es => if h : K' = K ∧ V' = V then some (castD (A := .map K' V') (B := .map K V) (by rw [h.1, h.2]) es, acc) else none
      | _ => none
    | _ => none

def decOs (objs : List OT) (ob : List AO) : (l : List OT) → Nat → Acc → Option (objsD l × Acc)
  | [], _, acc => some ((), acc)
  | o :: r, i, acc => (decO objs ob o i acc).bind fun x => (decOs objs ob r (i + 1) x.2).bind fun y => some (PD.mk o.u (objsU r) x.1 y.1, y.2)

/-- No object is both taken and given up. -/
def apart : List Nat → List Nat → Bool
  | [], _ => true
  | j :: r, l => notIn j l && apart r l

def startSrc (np : Nat) : Nat → List OT → List (Option Whence)
  | _, [] => []
  | i, .dead :: r => none :: startSrc np (i + 1) r
  | i, _ :: r => (if i < np then some (.obj i) else none) :: startSrc np (i + 1) r

def startOwn (np : Nat) : Nat → List OT → List Nat
  | _, [] => []
  | i, .dead :: r => startOwn np (i + 1) r
  | i, _ :: r => if i < np then i :: startOwn np (i + 1) r else startOwn np (i + 1) r

def Acc.start (np : Nat) (objs : List OT) : Acc := ⟨startSrc np 0 objs, startOwn np 0 objs, []⟩

def Spec.read (s : Spec) (xs : List AV) (ob : List AO) (acc : Acc) : Option (s.D × Acc) :=
  (decL s.objs ob s.vs xs acc).bind fun x =>
    match x.2.1 with
    | [] =>
      (decOs s.objs ob s.objs 0 x.2.2).bind fun y =>
        match apart y.2.own y.2.gone with
        | true => some (PD.mk (objsU s.objs) s.vs.u y.1 x.1, y.2)
        | false => none
    | _ => none

def Spec.dec (s : Spec) (st : St) : Option s.D :=
  (s.read (s.slots.map fun i => st.sl.getD i .dead) st.ob (Acc.start s.np s.objs)).map (·.1)

/-! ### Loops -/

def iter {σ τ : Type} (step : σ → Option (σ ⊕ τ)) : Nat → σ → Option τ
  | 0, _ => none
  | n + 1, s =>
    match step s with
    | none => none
    | some (.inl s') => iter step n s'
    | some (.inr r) => some r

theorem iter_succ_of {σ τ : Type} {step : σ → Option (σ ⊕ τ)} {n : Nat} : ∀ {s : σ} {r : τ}, iter step n s = some r → iter step (n + 1) s = some r := by
  induction n with
  | zero => intro s r h; cases h
  | succ n ih =>
    intro s r h
    rw [iter] at h ⊢
    split at h
    · cases h
    · rename_i s' e; exact ih h
    · exact h

theorem iter_mono {σ τ : Type} {step : σ → Option (σ ⊕ τ)} {n m : Nat} (hm : n ≤ m) {s : σ} {r : τ} (h : iter step n s = some r) : iter step m s = some r := by
  induction hm with
  | refl => exact h
  | step _ ih => exact iter_succ_of ih

open Classical in
noncomputable def loopO {σ τ : Type} (step : σ → Option (σ ⊕ τ)) (s : σ) : Option τ :=
  if h : ∃ n, (iter step n s).isSome = true then iter step (Classical.choose h) s else none

theorem loopO_iter {σ τ : Type} {step : σ → Option (σ ⊕ τ)} {s : σ} {r : τ} (h : loopO step s = some r) : ∃ n, iter step n s = some r := by
  unfold loopO at h
  split at h
  · exact ⟨_, h⟩
  · cases h

theorem loopO_of_iter {σ τ : Type} {step : σ → Option (σ ⊕ τ)} {n : Nat} {s : σ} {r : τ} (h : iter step n s = some r) : loopO step s = some r := by
  have he : ∃ n, (iter step n s).isSome = true := ⟨n, by rw [h]; rfl⟩
  unfold loopO
  rw [dif_pos he]
  have hs := Classical.choose_spec he
  generalize Classical.choose he = m at hs
  obtain ⟨r', hr'⟩ := Option.isSome_iff_exists.mp hs
  rw [hr']
  rcases Nat.le_total n m with hle | hle
  · rw [iter_mono hle h] at hr'; exact hr'.symm
  · rw [iter_mono hle hr'] at h; exact h

theorem loopO_eq {σ τ : Type} (step : σ → Option (σ ⊕ τ)) (s : σ) :
    loopO step s = match step s with | none => none | some (.inl s') => loopO step s' | some (.inr r) => some r := by
  cases hs : step s with
  | none =>
    cases hl : loopO step s with
    | none => rfl
    | some r =>
      obtain ⟨n, hn⟩ := loopO_iter hl
      cases n with
      | zero => cases hn
      | succ n => rw [iter, hs] at hn; cases hn
  | some x =>
    cases x with
    | inr r => exact loopO_of_iter (n := 1) (by rw [iter, hs])
    | inl s' =>
      show loopO step s = loopO step s'
      cases hl : loopO step s' with
      | some r =>
        obtain ⟨n, hn⟩ := loopO_iter hl
        exact loopO_of_iter (n := n + 1) (by rw [iter, hs]; exact hn)
      | none =>
        cases hl2 : loopO step s with
        | none => rfl
        | some r =>
          obtain ⟨n, hn⟩ := loopO_iter hl2
          cases n with
          | zero => cases hn
          | succ n =>
            rw [iter, hs] at hn
            rw [loopO_of_iter hn] at hl
            cases hl

/-! ### Code -/

inductive EK where
  | norm
  | exit (id : Nat)
  | ret
  deriving DecidableEq

@[reducible] def AltD : List (EK × Spec) → Type
  | [] => Empty
  | [a] => a.2.D
  | a :: b :: r => a.2.D ⊕ AltD (b :: r)

def inject : (l : List (EK × Spec)) → EK → St → Option (AltD l)
  | [], _, _ => none
  | [a], e, st => if a.1 = e then a.2.dec st else none
  | a :: b :: r, e, st =>
    match (if a.1 = e then a.2.dec st else none) with
    | some d => some (.inl d)
    | none => (inject (b :: r) e st).bind fun d => some (.inr d)

def dispatch {ρ : Type} : (l : List (EK × Spec)) → AltD l → (EK → St → Option ρ) → Option ρ
  | [], x, _ => nomatch x
  | [a], x, k => k a.1 (a.2.enc x)
  | a :: b :: r, x, k =>
    match x with
    | .inl d => k a.1 (a.2.enc d)
    | .inr d => dispatch (b :: r) d k

def kOf {ρ : Type} (kN : St → Option ρ) (kE : Nat → St → Option ρ) (kR : St → Option ρ) : EK → St → Option ρ
  | .norm, st => kN st
  | .exit id, st => kE id st
  | .ret, st => kR st

inductive Ann : Type 1 where
  | std
  | reg (hs : List OA)
  | drw (hs : List OA)
  | seq (a b : Ann)
  | join (alts : List (EK × Spec)) (a b : Ann)
  | cond (a b : Ann)
  | block (a : Ann)
  | loop (h : Spec) (alts : List (EK × Spec)) (a : Ann)
  /-- a loop of so many rounds, each for itself: the first one, the others -/
  | unroll (a b : Ann)
  /-- a range over slices.Chunk's function (its number; the types of slices and ints): the data's type; the state between two rounds; the assignment, the body -/
  | chunk (fid tS tI : Nat) (T : Ty) (h : Spec) (a b : Ann)

/-! #### Regions that draw their order -/

def opTmps (o : Op) : List Nat := o.operands.toList.filterMap fun | .tmp t => some t | _ => none

/-- An operation that leaves the objects as they are. -/
def OA.still0 (h : OA) : Op → Bool
  | .move _ | .assign _ | .pick .. | .unOp .. | .load .. | .fieldAddr .. | .field .. | .indexAddr .. | .index .. | .slice .. | .build .. | .extract .. | .nilCheck _ | .lookup .. | .makeFunc .. => true
  | .binOp .. => match h with | .obj _ => false | _ => true
  | .convert .. | .buildSlice .. => match h with | .inl _ => true | _ => false
  | .call { callee := .builtin .len, .. } => true
  | .call { callee := .builtin .min, .. } => true
  | .call { callee := .builtin .max, .. } => true
  | .call { callee := .value _, .. } => match h with | .callq _ => true | _ => false
  | _ => false

def OA.plain : OA → Bool
  | .frz _ _ => false
  | .nn _ _ => false
  | _ => true

def OA.still (h : OA) (o : Op) : Bool := h.plain && h.still0 o

def bindsTo (o : Oper) (i : Nat) : Bool := o.after.toList.any fun e => e.on == i && Region.binds .any e

/-- The slots that an operation reads: its operands, and its guard's. -/
def gTmps (all : List Oper) (o : Oper) : List Nat :=
  match o.guard with
  | none => opTmps o.op
  | some (g, _) =>
    match (all[g]?).bind (·.dst) with
    | some d => d :: opTmps o.op
    | none => opTmps o.op

/-- Operation j is bound to operation i, through so many others at most. -/
def near (all : List Oper) : Nat → Nat → Nat → Bool
  | 0, _, _ => false
  | d + 1, j, i =>
    match all[j]? with
    | none => false
    | some o => o.after.toList.any fun e => Region.binds .any e && (e.on == i || near all d e.on i)

/-- Each slot that another operation of the region writes: that one stands ahead and is bound to, or it is bound to wait; no slot is written twice. -/
def drwOps (all : List Oper) : List Oper → Nat → List (Nat × Nat) → Bool
  | [], _, _ => true
  | o :: r, j, w =>
    o.after.toList.all (fun e => !Region.binds .any e || decide (e.on < j)) &&
    (gTmps all o).all (fun t => w.all fun x => x.1 != t || bindsTo o x.2) &&
    (gTmps all o).all (fun t => r.zipIdx.all fun p => p.1.dst != some t || near all 5 (j + 1 + p.2) j) &&
    (match o.dst with | some d => w.all (fun x => x.1 != d) | none => true) &&
    drwOps all r (j + 1) (match o.dst with | some d => (d, j) :: w | none => w)

/-- An operation that does not look at the objects. -/
def OA.blind0 (h : OA) : Op → Bool
  | .move _ | .assign _ | .pick .. | .unOp .. | .fieldAddr .. | .field .. | .build .. | .extract .. | .nilCheck _ | .makeFunc .. => true
  | .binOp .. => match h with | .obj _ => false | _ => true
  | .slice .. => match h with | .inl _ => true | _ => false
  | .buildSlice .. => match h with | .inl _ => true | _ => false
  | .call { callee := .builtin .min, .. } => true
  | .call { callee := .builtin .max, .. } => true
  | _ => false

def OA.blind (h : OA) (o : Op) : Bool := h.plain && h.blind0 o

/-- It lays a new object, and looks at none. -/
def opAdds : Op → Bool
  | .alloc _ => true
  | _ => false

/-- A write that may be in the midst of a region. -/
def OA.wr (h : OA) (o : Oper) : Bool :=
  h.plain && (match o.guard with | none => true | some _ => !opAdds o.op) && (match o.op with | .store .. => true | .alloc _ => true | .call { callee := .builtin .append, .. } => (match h with | .obj _ => true | _ => false) | .call { callee := .builtin .copy, .. } => (match h with | .obj _ => true | _ => false) | .call { callee := .value _, .. } => (match h with | .call _ => true | _ => false) | _ => false)

/-- It looks at objects, and a new one behind them is nothing to it. -/
def opMono : Op → Bool
  | .load .. | .indexAddr .. => true
  | _ => false

def drwKinds (ops : List Oper) (hs : List OA) (n : Nat) : Bool :=
  (List.range n).all fun i =>
    match ops[i]? with
    | none => true
    | some o => (hs.getD i .std).still o.op || (hs.getD i .std).wr o

/-- A write that lays no new object stands between, and waits for the first. -/
def drwVia (ops : List Oper) (hs : List OA) (j w : Nat) : Bool :=
  (List.range w).any fun v => decide (j < v) && (match ops[v]? with
    | none => false
    | some o => (hs.getD v .std).wr o && !opAdds o.op && near ops 5 v j)

/-- A new object that is laid early is asked for only when all writes ahead of it in the text are done. -/
def drwLate (ops : List Oper) (hs : List OA) (n : Nat) : Bool :=
  (List.range n).all fun j =>
    match ops[j]? with
    | none => true
    | some o => !opAdds o.op || (List.range n).all fun i => decide (i ≤ j) ||
        (match ops[i]? with
        | none => true
        | some p => ((gTmps ops p).all (fun t => o.dst != some t) && ((hs.getD i .std).blind p.op || (hs.getD i .std).wr p)) ||
          (List.range j).all fun w =>
            match ops[w]? with
            | none => true
            | some q => !(hs.getD w .std).wr q || near ops 5 j w || near ops 5 i w)

/-- Each write and each operation that looks at the objects stand in one order. -/
def drwPairs (ops : List Oper) (hs : List OA) (n : Nat) : Bool :=
  (List.range n).all fun w =>
    match ops[w]? with
    | none => true
    | some o => !(hs.getD w .std).wr o || (List.range n).all fun j => j == w ||
        (match ops[j]? with
        | none => true
        | some p => (hs.getD j .std).blind p.op || (if j < w then near ops 5 w j || (opAdds o.op && ((hs.getD j .std).wr p || opMono p.op || drwVia ops hs j w)) else near ops 5 j w || opAdds p.op))

/-- The last one has no guard. -/
def lastPlain : List Oper → Bool
  | [] => true
  | [o] => match o.guard with | none => true | some _ => false
  | _ :: p :: r => lastPlain (p :: r)

/-- Each edge points back. -/
def drwBack : List Oper → Nat → Bool
  | [], _ => true
  | o :: r, j => o.after.toList.all (fun e => !Region.binds .any e || decide (e.on < j)) && drwBack r (j + 1)

def drwOk (ops : List Oper) (hs : List OA) : Bool :=
  hs.all OA.plain && drwBack ops 0 && ((drwOps ops ops 0 [] && (drwKinds ops hs ops.length && (drwPairs ops hs ops.length && drwLate ops hs ops.length))) ||
    (drwOps ops ops.dropLast 0 [] && (drwKinds ops hs (ops.length - 1) && (drwPairs ops hs (ops.length - 1) && drwLate ops hs (ops.length - 1))) && (lastPlain ops && (List.range (ops.length - 1)).all fun i => near ops 3 (ops.length - 1) i)))

/-- A call that turns objects. -/
def callH (h : OA) : Op → Bool
  | .call { callee := .value _, .. } => match h with | .call _ => true | _ => false
  | .call { callee := .builtin .append, .. } => match h with | .obj _ => true | _ => false
  | .call { callee := .builtin .copy, .. } => match h with | .obj _ => true | _ => false
  | .store .. => true
  | _ => false

/-- The same, where one that looks at an object may stand unordered behind a call that does not turn it. -/
def drwPairsT (ops : List Oper) (hs : List OA) (n : Nat) : Bool :=
  (List.range n).all fun w =>
    match ops[w]? with
    | none => true
    | some o => !(hs.getD w .std).wr o || (List.range n).all fun j => j == w ||
        (match ops[j]? with
        | none => true
        | some p => (hs.getD j .std).blind p.op || (if j < w then near ops 5 w j || (opAdds o.op && ((hs.getD j .std).wr p || opMono p.op || drwVia ops hs j w)) || (callH (hs.getD w .std) o.op && opMono p.op) else near ops 5 j w || opAdds p.op || (callH (hs.getD w .std) o.op && opMono p.op)))

def drwOkT (ops : List Oper) (hs : List OA) : Bool :=
  hs.all OA.plain && drwBack ops 0 && ((drwOps ops ops 0 [] && (drwKinds ops hs ops.length && (drwPairsT ops hs ops.length && drwLate ops hs ops.length))) ||
    (drwOps ops ops.dropLast 0 [] && (drwKinds ops hs (ops.length - 1) && (drwPairsT ops hs (ops.length - 1) && drwLate ops hs (ops.length - 1))) && (lastPlain ops && (List.range (ops.length - 1)).all fun i => near ops 3 (ops.length - 1) i)))

def ptrObj : AV → Option Nat
  | .ptr j _ _ => some j
  | .slw j => some j
  | .sl j _ _ => some j
  | _ => none

/-- The object that an operation looks at. -/
def monoPtr (s : List AV) : Op → Option Nat
  | .load _ p => ptrObj (ev s p)
  | .indexAddr _ x _ => ptrObj (ev s x)
  | _ => none

def touchAV : AV → List Nat
  | .ptr j _ _ => [j]
  | .slw j => [j]
  | .sl j _ _ => [j]
  | _ => []

/-- The objects that a call, a store, an append, a copy turns. -/
def touched (h : OA) (s : List AV) (ob : List AO) : Op → Option (List Nat)
  | .call { callee := .value f, args, .. } =>
    match h, ev s f with
    | .call l, .fn (.func g) first cap =>
      match pickC l g (first ++ args.toList.map (ev s) ++ cap) ob with
      | some c => some (c.nat.touch (first ++ args.toList.map (ev s) ++ cap) ob)
      | none => none
    | _, _ => none
  | .call { callee := .builtin .append, args, .. } => some (touchAV (ev s (args.toList.headD (.const .nilFunc))))
  | .call { callee := .builtin .copy, args, .. } => some (touchAV (ev s (args.toList.headD (.const .nilFunc))))
  | .store _ p _ => some (touchAV (ev s p))
  | _ => none

/-- Two places of objects that are plainly the same. -/
def avSame : AV → AV → Bool
  | .ptr j i s, .ptr j' i' s' => j == j' && (i == i' && s == s')
  | .slw j, .slw j' => j == j'
  | .map j, .map j' => j == j'
  | .nilptr, .nilptr => true
  | .nilmap, .nilmap => true
  | .nilfn, .nilfn => true
  | .nilsl, .nilsl => true
  | _, _ => false

def avsSame : List AV → List AV → Bool
  | [], [] => true
  | x :: r, y :: t => avSame x y && avsSame r t
  | _, _ => false

def aoSame : AO → AO → Bool
  | .box cs, .box ds => avsSame cs ds
  | _, _ => false

theorem avSame_eq : ∀ {x y : AV}, avSame x y = true → x = y := by
  intro x y h
  cases x <;> cases y <;> first | (cases h; done) | rfl | skip
  all_goals
    simp only [avSame, Bool.and_eq_true, beq_iff_eq] at h
    first
      | (obtain ⟨rfl, rfl, rfl⟩ := h; rfl)
      | (subst h; rfl)

theorem avsSame_eq : ∀ {x y : List AV}, avsSame x y = true → x = y
  | [], [], _ => rfl
  | [], _ :: _, h => by cases h
  | _ :: _, [], h => by cases h
  | x :: r, y :: t, h => by
    simp only [avsSame, Bool.and_eq_true] at h
    rw [avSame_eq h.1, avsSame_eq h.2]

theorem aoSame_eq {x y : AO} (h : aoSame x y = true) : x = y := by
  cases x <;> cases y <;> first | (cases h; done) | skip
  rw [avsSame_eq h]

/-- A call: its place, the objects ahead of it and behind it, those that it turns. -/
abbrev TS := Nat × List AO × List AO × List Nat

def sameObj (x : TS) (q : Nat) : Bool := (decide (q < x.2.1.length) && !x.2.2.2.contains q) || aoSame (x.2.1.getD q .dead) (x.2.2.1.getD q .dead)

def tsOk1 (all : List Oper) (j : Nat) (o : Op) (s : List AV) (x : TS) : Bool :=
  match monoPtr s o with
  | none => true
  | some q => near all 5 j x.1 || sameObj x q

def psOk (all : List Oper) (x : TS) (p : Nat × Nat) : Bool := near all 5 x.1 p.1 || sameObj x p.2

def psAdd (j : Nat) (o : Op) (s : List AV) (ps : List (Nat × Nat)) : List (Nat × Nat) :=
  match monoPtr s o with
  | some q => (j, q) :: ps
  | none => ps

/-- Operations one behind the other; what looks at an object may stand unordered to the calls that leave it as it is. -/
noncomputable def opsT (TT : Nat → TI) {ρ : Type} (all : List Oper) : List Oper → List OA → Nat → List TS → List (Nat × Nat) → St → (St → Option ρ) → Option ρ
  | [], _, _, _, _, st, k => k st
  | o :: os, hs, j, ts, ps, st, k =>
    match ts.all (tsOk1 all j o.op st.sl) with
    | false => none
    | true => opsK TT all [o] hs st fun st' =>
      match touched (hs.headD .std) st.sl st.ob o.op with
      | none => opsT TT all os hs.tail (j + 1) ts (psAdd j o.op st.sl ps) st' k
      | some T =>
        match ps.all (psOk all (j, st.ob, st'.ob, T)) with
        | false => none
        | true => opsT TT all os hs.tail (j + 1) ((j, st.ob, st'.ob, T) :: ts) (psAdd j o.op st.sl ps) st' k

/-- Behind a branch its condition is known. -/
def St.know (st : St) (c : Operand) (b : Bool) : St :=
  match c with
  | .tmp i => { st with sl := st.sl.set i (.bool b) }
  | _ => st

/-- Rounds one behind the other. -/
def unrollK {ρ : Type} (f : Ann → St → (St → Option ρ) → Option ρ) : Ann → St → Option ρ
  | .unroll x y, st => f x st fun st' => unrollK f y st'
  | _, _ => none

/-- The pieces of n each. -/
def chunks {α : Type} (n : Nat) : Nat → List α → List (List α)
  | 0, _ => []
  | _ + 1, [] => []
  | f + 1, x :: xs => (x :: xs).take n :: chunks n f ((x :: xs).drop n)

/-- A round for each. -/
def foldO {α σ : Type} (f : α → σ → Option σ) : List α → σ → Option σ
  | [], s => some s
  | x :: xs, s => (f x s).bind fun s' => foldO f xs s'

/-- What is ranged over: the slice, how many a piece, the place of the loop's variable. -/
def chunkOf (TT : Nat → TI) (fid tS tI : Nat) (T : Ty) (g : AV) (ps : List Nat) : Option (List T.D × Int × Nat) :=
  match g, ps, (TT tS).kind, (TT tI).kind with
  | .fn (.func f) [] [.iptr (.sl T') xs 0, .iptr (.int .i64) n 0], [p], .sl e, .int .i64 =>
    if f = fid ∧ (TT e).size = T.size ∧ (TT e).kind.isOther = false then
      if h : T' = T then some (castD (A := .sl T') (B := .sl T) (h ▸ rfl) xs, n, p) else none
    else none
  | _, _, _, _ => none

noncomputable def absCode (TT : Nat → TI) (c : Code) : Ann → {ρ : Type} → St → (St → Option ρ) → (Nat → St → Option ρ) → (St → Option ρ) → Option ρ :=
  match c with
  | .skip => fun _ _ st kN _ _ => kN st
  | .ret => fun _ _ st _ _ kR => kR st
  | .exit id => fun _ _ st _ kE _ => kE id st
  | .region _ ops false => fun x _ st kN _ _ =>
    match x with
    | .reg hs => opsK TT ops.toList ops.toList hs st kN
    | _ => none
  | .seq a b => fun x _ st kN kE kR =>
    match x with
    | .seq x y => absCode TT a x st (fun st' => absCode TT b y st' kN kE kR) kE kR
    | .join alts x y =>
      (absCode TT a x st (inject alts .norm) (fun id st' => inject alts (.exit id) st') (inject alts .ret)).bind fun d =>
        dispatch alts d (kOf (fun st' => absCode TT b y st' kN kE kR) kE kR)
    | _ => none
  | .cond c a b => fun x _ st kN kE kR =>
    match x with
    | .cond x y =>
      match ev st.sl c with
      | .bool t => if t = true then absCode TT a x (st.know c true) kN kE kR else absCode TT b y (st.know c false) kN kE kR
      | _ => none
    | _ => none
  | .block id a => fun x _ st kN kE kR =>
    match x with
    | .block x => absCode TT a x st kN (fun id' st' => if id' = id then kN st' else kE id' st') kR
    | _ => none
  | .loop a => fun x _ st kN kE kR =>
    match x with
    | .loop h alts x =>
      (h.dec st).bind fun s =>
        (loopO (fun s => absCode TT a x (h.enc s) (fun st' => (h.dec st').bind fun s' => some (.inl s'))
            (fun id st' => (inject alts (.exit id) st').bind fun d => some (.inr d)) (fun st' => (inject alts .ret st').bind fun d => some (.inr d))) s).bind fun d =>
          dispatch alts d (kOf kN kE kR)
    | .unroll x y => unrollK (fun x st kN => absCode TT a x st kN kE kR) (.unroll x y) st
    | _ => none
  | .region _ ops true => fun x _ st kN _ _ =>
    match x with
    | .drw hs =>
      match drwOk ops.toList hs with
      | true => opsK TT ops.toList ops.toList hs st kN
      | false =>
        match drwOkT ops.toList hs with
        | true => opsT TT ops.toList ops.toList hs 0 [] [] st kN
        | false => none
    | _ => none
  | .rangeFunc g ps assign body => fun x _ st kN _ _ =>
    match x with
    | .chunk fid tS tI T h xa xb =>
      match chunkOf TT fid tS tI T (ev st.sl g) ps.toList with
      | some (xs, n, p) =>
        if 1 ≤ n ∧ n + xs.length ≤ 9223372036854775807 then
          (h.dec st).bind fun s =>
            (foldO (fun part s => absCode TT assign xa ⟨(h.enc s).sl.set p (.isl T part), (h.enc s).ob⟩
                (fun st' => absCode TT body xb st' (fun st'' => h.dec ⟨(h.enc s).sl, st''.ob⟩) (fun _ _ => none) (fun _ => none)) (fun _ _ => none) (fun _ => none)) (chunks n.toNat xs.length xs) s).bind fun s' => kN (h.enc s')
        else none
      | none => none
    | _ => none
  | .scope _ => fun _ _ _ _ _ _ => none
  | .label _ => fun _ _ _ _ _ _ => none
  | .goto _ => fun _ _ _ _ _ _ => none
  | .refuse _ => fun _ _ _ _ _ _ => none

section
variable {TT : Nat → TI} {ρ : Type} {st : St} {kN : St → Option ρ} {kE : Nat → St → Option ρ} {kR : St → Option ρ}
theorem ac_skip {x : Ann} : absCode TT .skip x st kN kE kR = kN st := by rw [absCode]
theorem ac_ret {x : Ann} : absCode TT .ret x st kN kE kR = kR st := by rw [absCode]
theorem ac_exit {x : Ann} {id : Nat} : absCode TT (.exit id) x st kN kE kR = kE id st := by rw [absCode]
theorem ac_reg {id : Nat} {ops : List Oper} {hs : List OA} : absCode TT (.region id ops.toArray false) (.reg hs) st kN kE kR = opsK TT ops ops hs st kN := by rw [absCode]
theorem ac_seq {a b : Code} {x y : Ann} : absCode TT (.seq a b) (.seq x y) st kN kE kR = absCode TT a x st (fun st' => absCode TT b y st' kN kE kR) kE kR := by rw [absCode]
theorem ac_join {a b : Code} {x y : Ann} {alts : List (EK × Spec)} : absCode TT (.seq a b) (.join alts x y) st kN kE kR =
    (absCode TT a x st (inject alts .norm) (fun id st' => inject alts (.exit id) st') (inject alts .ret)).bind fun d =>
        dispatch alts d (kOf (fun st' => absCode TT b y st' kN kE kR) kE kR) := by rw [absCode]
theorem ac_cond {c : Operand} {a b : Code} {x y : Ann} : absCode TT (.cond c a b) (.cond x y) st kN kE kR =
    match ev st.sl c with
      | .bool t => if t = true then absCode TT a x (st.know c true) kN kE kR else absCode TT b y (st.know c false) kN kE kR
      | _ => none := by rw [absCode]
theorem ac_block {id : Nat} {a : Code} {x : Ann} : absCode TT (.block id a) (.block x) st kN kE kR =
    absCode TT a x st kN (fun id' st' => if id' = id then kN st' else kE id' st') kR := by rw [absCode]
theorem ac_loop {a : Code} {h : Spec} {alts : List (EK × Spec)} {x : Ann} : absCode TT (.loop a) (.loop h alts x) st kN kE kR =
    (h.dec st).bind fun s =>
        (loopO (fun s => absCode TT a x (h.enc s) (fun st' => (h.dec st').bind fun s' => some (.inl s'))
            (fun id st' => (inject alts (.exit id) st').bind fun d => some (.inr d)) (fun st' => (inject alts .ret st').bind fun d => some (.inr d))) s).bind fun d =>
          dispatch alts d (kOf kN kE kR) := by rw [absCode]
end

/-! ### Functions -/

/-- Data in which nothing can lie that was lent. -/
def Ty.solid : Ty → Bool
  | .int _ => true
  | .bool => true
  | .str => true
  | .pair a b => a.solid && b.solid
  | .st a => a.solid
  | .unit => true
  | .sl _ => false
  | .ptr _ => false
  | .map _ _ => false
  | .nsl _ => false

def Sh.solid : Sh → Bool
  | .v T => T.solid
  | .fn _ a b => a.solid && b.solid
  | .fsl _ => false
  | .cons a b => a.solid && b.solid
  | .ref _ => true
  | .part _ => true
  | .nilptr => true
  | .nilfn => true
  | .nilmap => true
  | .nilifc => true
  | .nilsl => true
  | .nil => true

def OT.solid : OT → Bool
  | .dead => true
  | .arr T => T.solid
  | .box fs => fs.solid
  | .map K V => K.solid && V.solid

def Spec.solid (s : Spec) : Bool := s.vs.solid && s.objs.all OT.solid

/-- What came in, each a whole object. -/
def jsOf : List (Option Whence) → Option (List Nat)
  | [] => some []
  | some (.obj j) :: r => (jsOf r).bind fun js => some (j :: js)
  | _ => none

/-- The objects that came in as they are now, and new ones behind. -/
def setAll : List AO → List Nat → List AO → List AO
  | ob, [], os => ob ++ os
  | ob, _ :: _, [] => ob
  | ob, j :: js, o :: os => setAll (ob.set j o) js os

@[reducible] def OutD : List Spec → Type
  | [] => Empty
  | [a] => a.D
  | a :: b :: r => a.D ⊕ OutD (b :: r)

def outK {ρ : Type} : (outs : List Spec) → OutD outs → ((o : Spec) → o.D → Option ρ) → Option ρ
  | [], x, _ => nomatch x
  | [a], x, k => k a x
  | a :: b :: r, x, k =>
    match x with
    | .inl d => k a d
    | .inr d => outK (b :: r) d k

/-- The first typed state that fits. -/
def outInj : (outs : List Spec) → St → Option (OutD outs)
  | [], _ => none
  | [a], st => a.dec st
  | a :: b :: r, st =>
    match a.dec st with
    | some d => some (.inl d)
    | none => (outInj (b :: r) st).bind fun d => some (.inr d)

def Spec.readIn (ins : Spec) (args : List AV) (ob : List AO) : Option (ins.D × Acc) := ins.read args ob ⟨List.replicate ins.objs.length none, [], []⟩

def lendOk (gone : List Nat) (outs : List Spec) : Bool :=
  match gone with
  | [] => true
  | _ :: _ => outs.all Spec.solid

def newIdx (js : List Nat) (n : Nat) (i : Nat) : Nat := if i < js.length then js.getD i 0 else n + (i - js.length)

/-- A function of typed states, in the form that calls take. -/
def mkFun (ins : Spec) (outs : List Spec) (f : ins.D → Option (OutD outs)) : Fun := fun _ args ob k =>
  (ins.readIn args ob).bind fun x =>
    (jsOf x.2.src).bind fun js =>
      match lendOk x.2.gone outs with
      | true => (f x.1).bind fun y => outK outs y fun o d =>
          k (encL o.objs (newIdx js ob.length) o.vs (o.vs_ d)) (setAll ob js (encOs o.objs (newIdx js ob.length) o.objs (o.objs_ d)))
      | false => none

theorem setAll_le : ∀ (js : List Nat) (ob os : List AO), ob.length ≤ (setAll ob js os).length
  | [], ob, os => by simp [setAll]
  | _ :: _, ob, [] => Nat.le_refl _
  | j :: js, ob, o :: os => by
    have := setAll_le js (ob.set j o) os
    simpa [setAll] using this

theorem outK_nat2 {α β ρ : Type} (k : α → β → Option ρ) : ∀ (outs : List Spec) (x : OutD outs) (A : (o : Spec) → o.D → α) (B : (o : Spec) → o.D → β),
    outK outs x (fun o d => k (A o d) (B o d)) = (outK outs x fun o d => some (A o d, B o d)).bind fun y => k y.1 y.2
  | [], x, _, _ => nomatch x
  | [_], _, _, _ => rfl
  | _ :: b :: r, x, A, B => by
    cases x with
    | inl d => rfl
    | inr d => exact outK_nat2 k (b :: r) d A B

theorem outK_some2 {α : Type} {y : α} : ∀ (outs : List Spec) (x : OutD outs) (A : (o : Spec) → o.D → α), (outK outs x fun o d => some (A o d)) = some y → ∃ o d, y = A o d
  | [], x, _, _ => nomatch x
  | [a], x, A, h => ⟨a, x, (Option.some.inj h).symm⟩
  | a :: b :: r, x, A, h => by
    cases x with
    | inl d => exact ⟨a, d, (Option.some.inj h).symm⟩
    | inr d => exact outK_some2 (b :: r) d A h

theorem setAll_keep : ∀ (js : List Nat) (ob os : List AO) (j : Nat), j < ob.length → j ∉ js → (setAll ob js os).getD j .dead = ob.getD j .dead
  | [], ob, os, j, hj, _ => by simp [setAll, List.getD, List.getElem?_append, hj]
  | _ :: _, ob, [], j, _, _ => by simp [setAll]
  | i :: js, ob, o :: os, j, hj, hn => by
    simp only [List.mem_cons, not_or] at hn
    rw [setAll, setAll_keep js _ os j (by simpa using hj) hn.2]
    have : i ≠ j := fun e => hn.1 e.symm
    simp [List.getD, this]

def touchOf (ins : Spec) (args : List AV) (ob : List AO) : List Nat :=
  match ins.readIn args ob with
  | some x =>
    match jsOf x.2.src with
    | some js => js
    | none => []
  | none => []

def mkFun_nat (ins : Spec) (outs : List Spec) (f : ins.D → Option (OutD outs)) : FunNat (mkFun ins outs f) where
  nat ρ args ob k := by
    unfold mkFun
    cases ins.readIn args ob with
    | none => rfl
    | some x =>
      simp only [Option.bind_some]
      cases jsOf x.2.src with
      | none => rfl
      | some js =>
        simp only [Option.bind_some]
        cases lendOk x.2.gone outs with
        | false => rfl
        | true =>
          simp only
          cases f x.1 with
          | none => rfl
          | some y => simp only [Option.bind_some]; exact outK_nat2 k outs y _ _
  len args ob x h := by
    unfold mkFun at h
    simp only [Option.bind_eq_some_iff] at h
    obtain ⟨a, _, js, _, h⟩ := h
    split at h
    · simp only [Option.bind_eq_some_iff] at h
      obtain ⟨y, _, h⟩ := h
      obtain ⟨o, d, rfl⟩ := outK_some2 _ _ _ h
      exact setAll_le _ _ _
    · cases h
  touch := touchOf ins
  frame args ob x h q hq hn := by
    unfold mkFun at h
    simp only [Option.bind_eq_some_iff] at h
    obtain ⟨a, h1, js, h2, h⟩ := h
    split at h
    · simp only [Option.bind_eq_some_iff] at h
      obtain ⟨y, _, h⟩ := h
      obtain ⟨o, d, rfl⟩ := outK_some2 _ _ _ h
      refine setAll_keep js ob _ q hq ?_
      unfold touchOf at hn
      rw [h1] at hn
      simp only [h2] at hn
      exact hn
    · cases h

def mkFits (ins : Spec) (outs : List Spec) (args : List AV) (ob : List AO) : Bool :=
  match ins.readIn args ob with
  | some x => (jsOf x.2.src).isSome && lendOk x.2.gone outs
  | none => false

/-- The state in which a function begins. -/
def Spec.init (ins : Spec) (N : Nat) (a : ins.D) : St :=
  let xs := encL ins.objs id ins.vs (ins.vs_ a)
  ⟨xs ++ List.replicate (N - xs.length) .undef, encOs ins.objs id ins.objs (ins.objs_ a)⟩

/-- What the code computes. -/
noncomputable def absFn (TT : Nat → TI) (N : Nat) (ins : Spec) (outs : List Spec) (c : Code) (x : Ann) (a : ins.D) : Option (OutD outs) :=
  absCode TT c x (ins.init N a) (outInj outs) (fun _ _ => none) (outInj outs)

end Go.Proofs.YtlbammfnkphajaaGreatDoor.Abs
