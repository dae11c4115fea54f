/- Chains: plain laws, fitted. -/
import Derived.Test.YtlbammfnkphajaaGreatDoorChS
namespace Go.Proofs.YtlbammfnkphajaaGreatDoor.Abs.Sn
open Go
set_option linter.unusedVariables false
attribute [-simp] List.getD_eq_getElem?_getD

abbrev Sp := Int × Int × Int
abbrev sp0 : Sp := (0, (0, 0))
def lastSp (l : List Sp) : Sp := l.getD (l.length - 1) sp0
def joinsS (a b : Sp) : Bool := (IntKind.i64.wrap (a.1 + a.2.2) == b.1) && (IntKind.i64.wrap (a.2.1 + a.2.2) == b.2.1)
def addS (l : List Sp) (s : Sp) : List Sp :=
  if 0 < l.length ∧ joinsS (lastSp l) s = true then l.set (l.length - 1) ((lastSp l).1, (lastSp l).2.1, IntKind.i64.wrap ((lastSp l).2.2 + s.2.2)) else l ++ [s]

def ofS (m : List Int) : Nat → List Sp
  | 0 => []
  | i + 1 => if 0 < m.getD i 0 ∧ m.getD i 0 < 65536 then addS (ofS m i) (i, m.getD i 0, 1) else ofS m i

def inSp (s : Sp) (q : Nat) : Prop := s.1 ≤ q ∧ (q : Int) - s.1 < s.2.2
instance (s : Sp) (q : Nat) : Decidable (inSp s q) := by unfold inSp; infer_instance
def valSp (s : Sp) (q : Nat) : Int := IntKind.i64.wrap (s.2.1 + IntKind.i64.wrap ((q : Int) - s.1))
def paintTo (m : List Int) (s : Sp) (i : Nat) : List Int := (List.range m.length).map fun q => if q < i ∧ inSp s q then valSp s q else m.getD q 0

def okSp (s : Sp) : Prop := -1000000 ≤ s.1 ∧ s.1 ≤ 1000000 ∧ s.2.2 ≤ 1000000

def mapS (l : List Sp) (n : Nat) : Nat → List Int
  | 0 => List.replicate n 0
  | k + 1 => paintTo (mapS l n k) (l.getD k sp0) n

def cl (n1 : Int) : Int := if 65536 < (if 0 > n1 then 0 else n1) then 65536 else (if 0 > n1 then 0 else n1)
/-! ### Comparisons -/

theorem sameInts (a : List Int) (h : a.length ≤ 1048576) : rf01_Same (a, a) = some true := by
  unfold rf01_Same
  dsimp only
  rw [if_neg (by simp)]
  have := loop_run (f := rf01_Same.l1) (fun i => (a, a, (i : Int))) (n := a.length) (r := .inl ()) (fun i hi => by
    unfold rf01_Same.l1
    dsimp only
    rw [if_pos (by simp; omega), if_pos (by omega), if_pos (by omega), if_neg (by simp)]
    rw [wrap_succ (by omega)]) (by unfold rf01_Same.l1; simp)
  rw [show (0 : Int) = ((0 : Nat) : Int) from rfl, this]; rfl

def clampS (s : Sp) : Sp := ((if 70000 < (if (-1000) > s.1 then (-1000) else s.1) then 70000 else (if (-1000) > s.1 then (-1000) else s.1)), (if 70000 < (if (-1000) > s.2.1 then (-1000) else s.2.1) then 70000 else (if (-1000) > s.2.1 then (-1000) else s.2.1)), (if 300 < s.2.2 then 300 else s.2.2))
def fewS (l : List Sp) : List Sp := (l.take 8).map clampS

def okS (s : Sp) : Prop := 0 ≤ s.1 ∧ 1 ≤ s.2.1 ∧ 1 ≤ s.2.2 ∧ s.2.2 < 65536 ∧ s.1 ≤ 65536 - s.2.2 ∧ s.2.1 ≤ 65536 - s.2.2
def nextOk (a b : Sp) : Prop := a.1 + a.2.2 ≤ b.1 ∧ ¬ (a.1 + a.2.2 = b.1 ∧ a.2.1 + a.2.2 = b.2.1)
instance (s : Sp) : Decidable (okS s) := by unfold okS; infer_instance
instance (a b : Sp) : Decidable (nextOk a b) := by unfold nextOk; infer_instance

def Good : List Sp → Prop
  | [] => True
  | [s] => okS s
  | a :: b :: r => okS a ∧ nextOk a b ∧ Good (b :: r)

theorem Good.head {s : Sp} {r : List Sp} (h : Good (s :: r)) : okS s := by
  cases r with
  | nil => exact h
  | cons b r => exact h.1
theorem Good.tail {s : Sp} {r : List Sp} (h : Good (s :: r)) : Good r := by
  cases r with
  | nil => trivial
  | cons b r => exact h.2.2
/-- No number is far out. -/
def near0 (s : Sp) : Prop := -1000000 ≤ s.1 ∧ s.1 ≤ 1000000 ∧ -1000000 ≤ s.2.1 ∧ s.2.1 ≤ 1000000 ∧ s.2.2 ≤ 1000000 ∧ -9223372036854775808 ≤ s.2.2

def badAt (l : List Sp) (k : Nat) : Bool := !(decide (okS (l.getD k sp0)) && (decide (k = 0) || decide (nextOk (l.getD (k - 1) sp0) (l.getD k sp0))))

/-! ### What is cut -/

def cutS : List Sp → Int → List Sp
  | [], _ => []
  | s :: r, n => if s.1 < n then (s.1, s.2.1, (if n - s.1 < s.2.2 then n - s.1 else s.2.2)) :: cutS r n else []

/-! ### The blocks that spans say -/

def val : List Sp → Int → Int
  | [], _ => 0
  | s :: r, q => if s.1 ≤ q ∧ q - s.1 < s.2.2 then s.2.1 + (q - s.1) else val r q

/-- Spans of the blocks that f says. -/
def ofF (f : Int → Int) : Nat → List Sp
  | 0 => []
  | i + 1 => if 0 < f i ∧ f i < 65536 then addS (ofF f i) (i, f i, 1) else ofF f i

/-! ### Spans of a map are in order, and say the map -/

def clip (b : Int) : Int := if 0 < b ∧ b < 65536 then b else 0

/-- Ends lie at most at n. -/
def Ends (l : List Sp) (n : Int) : Prop := ∀ t ∈ l, t.1 + t.2.2 ≤ n

/-! ### A map comes back -/

def sumLen : List Sp → Int
  | [] => 0
  | s :: r => s.2.2 + sumLen r

/-- How many are not 0. -/
def used (m : List Int) : Nat → Nat
  | 0 => 0
  | i + 1 => if m.getD i 0 = 0 then used m i else used m i + 1
end Go.Proofs.YtlbammfnkphajaaGreatDoor.Abs.Sn
