/- Spans and maps: what the functions compute. -/
import Derived.Test.YtnbhmifidhoblaaLives
import Derived.Test.YtnbhmifidhoblaaAbsLoops
import Derived.Test.YtnbhmifidhoblaaAbsLaw
namespace Go.Proofs.Ytnbhmifidhoblaa.Abs
open Go
set_option linter.unusedVariables false
attribute [-simp] List.getD_eq_getElem?_getD

abbrev Sp := Int × Int × Int
abbrev sp0 : Sp := (0, (0, 0))
def lastSp (l : List Sp) : Sp := l.getD (l.length - 1) sp0
def joinsS (a b : Sp) : Bool := (IntKind.i64.wrap (a.1 + a.2.2) == b.1) && (IntKind.i64.wrap (a.2.1 + a.2.2) == b.2.1)
def addS (l : List Sp) (s : Sp) : List Sp :=
  if 0 < l.length ∧ joinsS (lastSp l) s = true then l.set (l.length - 1) ((lastSp l).1, (lastSp l).2.1, IntKind.i64.wrap ((lastSp l).2.2 + s.2.2)) else l ++ [s]

theorem joins_is (a b : Sp) : spans_joins (a, b) = some (joinsS a b) := by
  unfold spans_joins joinsS
  simp only
  split
  · rename_i h; simp [h]
  · rename_i h
    simp only [Bool.not_eq_true] at h
    simp [h]

theorem add_is (l : List Sp) (s : Sp) (h : l.length ≤ 1048576) : spans_add_1 (l, s) = some (addS l s) := by
  obtain ⟨a, b, c⟩ := s
  unfold spans_add_1 addS lastSp
  have hw : IntKind.i64.wrap ((l.length : Int) - 1) = (l.length : Int) - 1 := wrap64 (by omega) (by omega)
  simp only [hw, joins_is, Option.bind_some]
  by_cases h0 : 0 < l.length
  · have e1 : ((l.length : Int) - 1).toNat = l.length - 1 := by omega
    have e2 : (decide ((l.length : Int) - 1 ≥ 0) = true) := by simp; omega
    have e3 : 0 ≤ (l.length : Int) - 1 ∧ (l.length : Int) - 1 < (l.length : Int) := by omega
    simp only [e1, e2, e3, and_self, if_true, Option.bind_some, h0, true_and]
    have e4 : roomOk (l.length + [(a, b, c)].length) 24 := room (by omega) (by simp; omega)
    cases hj : joinsS (l.getD (l.length - 1) sp0) (a, b, c) with
    | true =>
      simp only [if_true]
      simp only [joinsS] at hj ⊢
      simp [hj, sp0]
      omega
    | false =>
      simp only [joinsS] at hj ⊢
      simp [hj, sp0]
      simpa using e4
  · have hl : l = [] := List.length_eq_zero_iff.1 (by omega)
    subst hl
    have e4 : roomOk (0 + [(a, b, c)].length) 24 := room (by omega) (by simp)
    simp at e4 ⊢
    exact e4

theorem addS_len (l : List Sp) (s : Sp) : (addS l s).length ≤ l.length + 1 := by
  unfold addS
  split <;> simp

def ofS (m : List Int) : Nat → List Sp
  | 0 => []
  | i + 1 => if 0 < m.getD i 0 ∧ m.getD i 0 < 65536 then addS (ofS m i) (i, m.getD i 0, 1) else ofS m i

theorem ofS_len (m : List Int) : ∀ i, (ofS m i).length ≤ i
  | 0 => by simp [ofS]
  | i + 1 => by
    have := ofS_len m i
    have h2 := addS_len (ofS m i) (i, m.getD i 0, 1)
    simp only [ofS]
    split <;> omega

theorem Of_is (m : List Int) (h : m.length ≤ 65536) : spans_Of m = some (ofS m m.length) := by
  unfold spans_Of
  have e : (if 65536 < (m.length : Int) then 65536 else (m.length : Int)) = m.length := if_neg (by omega)
  simp only [e, Int.toNat_natCast, List.take_length]
  rw [if_pos (by omega)]
  have := loop_run (f := spans_Of.l1) (fun i => (ofS m i, m, (m.length : Int), (i : Int))) (n := m.length) (r := ofS m m.length) (fun i hi => by
    have hl := ofS_len m i
    unfold spans_Of.l1
    simp only [Int.toNat_natCast]
    rw [if_pos (by simp; omega), if_pos (by omega)]
    by_cases h1 : 0 < m.getD i 0
    · simp only [gt_iff_lt, h1, decide_true, if_true, Option.bind_some]
      by_cases h2 : m.getD i 0 < 65536
      · simp only [h2, decide_true, if_true, add_is _ _ (show (ofS m i).length ≤ 1048576 by omega), Option.bind_some, wrap_succ (show i < 9223372036854775807 by omega), ofS, h1, and_self]
      · simp [h2, wrap_succ (show i < 9223372036854775807 by omega), ofS]
    · simp [h1, wrap_succ (show i < 9223372036854775807 by omega), ofS]) (by unfold spans_Of.l1; simp)
  rw [show ([] : List Sp) = ofS m 0 from rfl, show (0 : Int) = ((0 : Nat) : Int) from rfl, this]; rfl

theorem refOf_is (m : List Int) (h : m.length ≤ 65536) : wainwrightref04_Of m = some (ofS m m.length) := by
  unfold wainwrightref04_Of
  have := loop_run (f := wainwrightref04_Of.l1) (fun i => (ofS m i, m, (i : Int))) (n := m.length) (r := ofS m m.length) (fun i hi => by
    have hl := ofS_len m i
    unfold wainwrightref04_Of.l1
    simp only [Int.toNat_natCast]
    rw [if_pos (by simp; omega), if_pos (by simp; omega), if_pos (by omega)]
    have hb : wainwrightref04_block (m.getD i 0) = some (if 0 < m.getD i 0 ∧ m.getD i 0 < 65536 then m.getD i 0 else 0) := by
      unfold wainwrightref04_block
      by_cases h1 : 0 < m.getD i 0
      · by_cases h2 : m.getD i 0 < 65536
        · rw [if_pos (by simp; omega), if_neg (by simp; omega), if_pos ⟨h1, h2⟩]
        · rw [if_pos (by simp; omega), if_pos (by simp; omega), if_neg (by omega)]
      · rw [if_neg (by simp; omega), if_neg (by omega)]
    rw [hb]
    simp only [Option.bind_some, ofS, wrap_succ (show i < 9223372036854775807 by omega)]
    by_cases hc : 0 < m.getD i 0 ∧ m.getD i 0 < 65536
    · rw [if_pos hc, if_pos hc]
      have hne : (m.getD i 0 == 0) = false := by simp; omega
      rw [hne, if_neg (by simp)]
      have hadd := add_is (ofS m i) (i, m.getD i 0, 1) (by omega)
      generalize ofS m i = l at hl hadd ⊢
      generalize m.getD i 0 = b at hadd ⊢
      have hw : IntKind.i64.wrap ((l.length : Int) - 1) = (l.length : Int) - 1 := wrap64 (by omega) (by omega)
      simp only [hw]
      unfold addS lastSp
      have e4 : roomOk (l.length + [((i : Int), b, (1 : Int))].length) 24 := room (by omega) (by simp; omega)
      by_cases h0 : 0 < l.length
      · have e1 : ((l.length : Int) - 1).toNat = l.length - 1 := by omega
        have e2 : (decide ((l.length : Int) - 1 ≥ 0) = true) := by simp; omega
        have e3 : 0 ≤ (l.length : Int) - 1 ∧ (l.length : Int) - 1 < (l.length : Int) := by omega
        have hws : IntKind.i64.wrap ((i : Int) + 1) = ((i + 1 : Nat) : Int) := wrap_succ (by omega)
        unfold joinsS
        simp only [sp0]
        cases q1 : (IntKind.i64.wrap ((l.getD (l.length - 1) (0, 0, 0)).1 + (l.getD (l.length - 1) (0, 0, 0)).2.2) == (i : Int)) <;>
          cases q2 : (IntKind.i64.wrap ((l.getD (l.length - 1) (0, 0, 0)).2.1 + (l.getD (l.length - 1) (0, 0, 0)).2.2) == b) <;>
          simp only [e1, e3, e4, h0, q1, q2, hws, and_self, true_and, and_true, Bool.and_true, Bool.and_false, Bool.false_and, Bool.true_and, if_true, if_false, decide_true, ge_iff_le, Bool.false_eq_true, Option.bind_some]
      · have hl : l = [] := List.length_eq_zero_iff.1 (by omega)
        subst hl
        simp at e4 ⊢
        exact ⟨e4, by have := wrap_succ (n := i) (by omega); simpa using this⟩
    · rw [if_neg hc, if_neg hc]
      simp) (by unfold wainwrightref04_Of.l1; simp)
  rw [show ([] : List Sp) = ofS m 0 from rfl, show (0 : Int) = ((0 : Nat) : Int) from rfl, this]; rfl

end Go.Proofs.Ytnbhmifidhoblaa.Abs
