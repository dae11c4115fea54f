/- Chains: plain laws, fitted. -/
import Derived.Test.YtlbammfnkphajaaGreatDoorChN
namespace Go.Proofs.YtlbammfnkphajaaGreatDoor.Abs
open Go
set_option linter.unusedVariables false
attribute [-simp] List.getD_eq_getElem?_getD

/-! ### Two bytes -/

def w2 (s : Blk) (j : Nat) : Int := ((s.getD j 0).toNat : Int) + 256 * ((s.getD (j + 1) 0).toNat : Int)
def b2 (v : Int) : Blk := u8s (le 2 v)
theorem val2w (s : Blk) (j : Nat) (h : j + 2 ≤ s.length) : ((val ((s.drop j).take 2) : Nat) : Int) = w2 s j := by
  have e : (s.drop j).take 2 = [s.getD j 0, s.getD (j + 1) 0] := by
    rw [List.drop_eq_getElem_cons (by omega), List.drop_eq_getElem_cons (by omega), List.take_succ_cons, List.take_succ_cons, List.take_zero, getD_lt (by omega), getD_lt (by omega)]
  rw [e]
  unfold w2
  simp only [val]
  omega

/-! ### Pages of runs -/

abbrev Pg := List Sp
def runAt (s : Blk) (k : Nat) : Sp := (w2 s (1 + 6 * k), w2 s (3 + 6 * k), w2 s (5 + 6 * k))
def pageN (s : Blk) : Nat := (s.getD 0 0).toNat
def pageX (s : Blk) : Int := w2 s 126
def pageR (s : Blk) : Pg := (List.range (pageN s)).map (runAt s)
def pageOk (s : Blk) : Bool := (decide (1 ≤ pageN s ∧ pageN s ≤ 20) && zeros ((s.take 126).drop (1 + 6 * pageN s))) && (decide (pageX s = 0) || decide (pageN s = 20))

def runB (r : Sp) : Blk := b2 r.1 ++ (b2 r.2.1 ++ b2 r.2.2)
def headB (rs : Pg) : Blk := UInt8.ofNat rs.length :: rs.flatMap runB
def pageB (rs : Pg) (nx : Int) : Blk := headB rs ++ (List.replicate (126 - (1 + 6 * rs.length)) 0 ++ b2 nx)
def small (r : Sp) : Prop := (0 ≤ r.1 ∧ r.1 ≤ 65535) ∧ (0 ≤ r.2.1 ∧ r.2.1 ≤ 65535) ∧ (0 ≤ r.2.2 ∧ r.2.2 ≤ 65535)

theorem zeros_repl (n : Nat) : zeros (List.replicate n 0) = true := by
  unfold zeros
  rw [List.all_eq_true]
  intro x hx
  rw [List.eq_of_mem_replicate hx]
  rfl

/-! ### A chain of pages -/

def ownI (n : Nat) (b : Int) : Bool := decide (51 ≤ b ∧ b < (n : Int))

def walk (g : Int → Blk) (n : Nat) : Nat → Pg → List Int → Int → Option (Pg × List Int)
  | 0, _, _, _ => none
  | f + 1, l, bs, nx =>
    if nx = 0 then some (l, bs)
    else if ownI n nx = true ∧ l.length ≤ 120 then (if pageOk (g nx) = true then walk g n f (l ++ pageR (g nx)) (bs ++ [nx]) (pageX (g nx)) else none)
    else none

/-- Pages that lie in blocks, each with the number of the next. -/
def laidP (g : Int → Blk) : List Pg → List Int → Prop
  | p :: ps, b :: bs => g b = pageB p (bs.headD 0) ∧ laidP g ps bs
  | [], [] => True
  | _, _ => False

/-- Pages as they are made: all but the last are full. -/
def goodP : List Pg → Prop
  | [] => True
  | [p] => 1 ≤ p.length ∧ p.length ≤ 20 ∧ (∀ r ∈ p, small r)
  | p :: q :: ps => (p.length = 20 ∧ (∀ r ∈ p, small r)) ∧ goodP (q :: ps)

end Go.Proofs.YtlbammfnkphajaaGreatDoor.Abs
