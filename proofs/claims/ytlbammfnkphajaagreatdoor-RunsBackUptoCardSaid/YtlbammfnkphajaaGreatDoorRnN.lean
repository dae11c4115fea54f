/- Spans of a map, the map of spans. -/
import Derived.Test.YtlbammfnkphajaaGreatDoorRnS
namespace Go.Proofs.YtlbammfnkphajaaGreatDoor.Abs.Sn
open Go
set_option linter.unusedVariables false
attribute [-simp] List.getD_eq_getElem?_getD

abbrev Sp := Int × Int × Int
abbrev sp0 : Sp := (0, (0, 0))
def lastSp (l : List Sp) : Sp := l.getD (l.length - 1) sp0
def joinsS (a b : Sp) : Bool := (IntKind.i64.wrap (a.1 + a.2.2) == b.1) && (IntKind.i64.wrap (a.2.1 + a.2.2) == b.2.1)
def addS (l : List Sp) (s : Sp) : List Sp :=
  if 0 < l.length ∧ joinsS (lastSp l) s = true then l.set (l.length - 1) ((lastSp l).1, (lastSp l).2.1, IntKind.i64.wrap ((lastSp l).2.2 + s.2.2)) else l ++ [s]

theorem joins_is (a b : Sp) : spans_joins (a, b) = some (joinsS a b) := by
  unfold spans_joins joinsS
  simp only
  split
  · rename_i h; simp [h]
  · rename_i h
    simp only [Bool.not_eq_true] at h
    simp [h]

theorem add_is (l : List Sp) (s : Sp) (h : l.length ≤ 1048576) : spans_add_1 (l, s) = some (addS l s) := by
  obtain ⟨a, b, c⟩ := s
  unfold spans_add_1 addS lastSp
  have hw : IntKind.i64.wrap ((l.length : Int) - 1) = (l.length : Int) - 1 := wrap64 (by omega) (by omega)
  simp only [hw, joins_is, Option.bind_some]
  by_cases h0 : 0 < l.length
  · have e1 : ((l.length : Int) - 1).toNat = l.length - 1 := by omega
    have e2 : (decide ((l.length : Int) - 1 ≥ 0) = true) := by simp; omega
    have e3 : 0 ≤ (l.length : Int) - 1 ∧ (l.length : Int) - 1 < (l.length : Int) := by omega
    simp only [e1, e2, e3, and_self, if_true, Option.bind_some, h0, true_and]
    have e4 : roomOk (l.length + [(a, b, c)].length) 24 := room (by omega) (by simp; omega)
    cases hj : joinsS (l.getD (l.length - 1) sp0) (a, b, c) with
    | true =>
      simp only [if_true]
      simp only [joinsS] at hj ⊢
      simp [hj, sp0]
      omega
    | false =>
      simp only [joinsS] at hj ⊢
      simp [hj, sp0]
      simpa using e4
  · have hl : l = [] := List.length_eq_zero_iff.1 (by omega)
    subst hl
    have e4 : roomOk (0 + [(a, b, c)].length) 24 := room (by omega) (by simp)
    simp at e4 ⊢
    exact e4

theorem addS_len (l : List Sp) (s : Sp) : (addS l s).length ≤ l.length + 1 := by
  unfold addS
  split <;> simp

def ofS (m : List Int) : Nat → List Sp
  | 0 => []
  | i + 1 => if 0 < m.getD i 0 ∧ m.getD i 0 < 65536 then addS (ofS m i) (i, m.getD i 0, 1) else ofS m i

theorem ofS_len (m : List Int) : ∀ i, (ofS m i).length ≤ i
  | 0 => by simp [ofS]
  | i + 1 => by
    have := ofS_len m i
    have h2 := addS_len (ofS m i) (i, m.getD i 0, 1)
    simp only [ofS]
    split <;> omega

theorem Of_is (m : List Int) (h : m.length ≤ 65536) : spans_Of m = some (ofS m m.length) := by
  unfold spans_Of
  have e : (if 65536 < (m.length : Int) then 65536 else (m.length : Int)) = m.length := if_neg (by omega)
  simp only [e, Int.toNat_natCast, List.take_length]
  rw [if_pos (by omega)]
  have := loop_run (f := spans_Of.l1) (fun i => (ofS m i, m, (m.length : Int), (i : Int))) (n := m.length) (r := ofS m m.length) (fun i hi => by
    have hl := ofS_len m i
    unfold spans_Of.l1
    simp only [Int.toNat_natCast]
    rw [if_pos (by simp; omega), if_pos (by omega)]
    by_cases h1 : 0 < m.getD i 0
    · simp only [gt_iff_lt, h1, decide_true, if_true, Option.bind_some]
      by_cases h2 : m.getD i 0 < 65536
      · simp only [h2, decide_true, if_true, add_is _ _ (show (ofS m i).length ≤ 1048576 by omega), Option.bind_some, wrap_succ (show i < 9223372036854775807 by omega), ofS, h1, and_self]
      · simp [h2, wrap_succ (show i < 9223372036854775807 by omega), ofS]
    · simp [h1, wrap_succ (show i < 9223372036854775807 by omega), ofS]) (by unfold spans_Of.l1; simp)
  rw [show ([] : List Sp) = ofS m 0 from rfl, show (0 : Int) = ((0 : Nat) : Int) from rfl, this]; rfl

theorem refOf_is (m : List Int) (h : m.length ≤ 65536) : rf04_Of m = some (ofS m m.length) := by
  unfold rf04_Of
  have := loop_run (f := rf04_Of.l1) (fun i => (ofS m i, m, (i : Int))) (n := m.length) (r := ofS m m.length) (fun i hi => by
    have hl := ofS_len m i
    unfold rf04_Of.l1
    simp only [Int.toNat_natCast]
    rw [if_pos (by simp; omega), if_pos (by simp; omega), if_pos (by omega)]
    have hb : rf04_block (m.getD i 0) = some (if 0 < m.getD i 0 ∧ m.getD i 0 < 65536 then m.getD i 0 else 0) := by
      unfold rf04_block
      by_cases h1 : 0 < m.getD i 0
      · by_cases h2 : m.getD i 0 < 65536
        · rw [if_pos (by simp; omega), if_neg (by simp; omega), if_pos ⟨h1, h2⟩]
        · rw [if_pos (by simp; omega), if_pos (by simp; omega), if_neg (by omega)]
      · rw [if_neg (by simp; omega), if_neg (by omega)]
    rw [hb]
    simp only [Option.bind_some, ofS, wrap_succ (show i < 9223372036854775807 by omega)]
    by_cases hc : 0 < m.getD i 0 ∧ m.getD i 0 < 65536
    · rw [if_pos hc, if_pos hc]
      have hne : (m.getD i 0 == 0) = false := by simp; omega
      rw [hne, if_neg (by simp)]
      have hadd := add_is (ofS m i) (i, m.getD i 0, 1) (by omega)
      generalize ofS m i = l at hl hadd ⊢
      generalize m.getD i 0 = b at hadd ⊢
      have hw : IntKind.i64.wrap ((l.length : Int) - 1) = (l.length : Int) - 1 := wrap64 (by omega) (by omega)
      simp only [hw]
      unfold addS lastSp
      have e4 : roomOk (l.length + [((i : Int), b, (1 : Int))].length) 24 := room (by omega) (by simp; omega)
      by_cases h0 : 0 < l.length
      · have e1 : ((l.length : Int) - 1).toNat = l.length - 1 := by omega
        have e2 : (decide ((l.length : Int) - 1 ≥ 0) = true) := by simp; omega
        have e3 : 0 ≤ (l.length : Int) - 1 ∧ (l.length : Int) - 1 < (l.length : Int) := by omega
        have hws : IntKind.i64.wrap ((i : Int) + 1) = ((i + 1 : Nat) : Int) := wrap_succ (by omega)
        unfold joinsS
        simp only [sp0]
        cases q1 : (IntKind.i64.wrap ((l.getD (l.length - 1) (0, 0, 0)).1 + (l.getD (l.length - 1) (0, 0, 0)).2.2) == (i : Int)) <;>
          cases q2 : (IntKind.i64.wrap ((l.getD (l.length - 1) (0, 0, 0)).2.1 + (l.getD (l.length - 1) (0, 0, 0)).2.2) == b) <;>
          simp only [e1, e3, e4, h0, q1, q2, hws, and_self, true_and, and_true, Bool.and_true, Bool.and_false, Bool.false_and, Bool.true_and, if_true, if_false, decide_true, ge_iff_le, Bool.false_eq_true, Option.bind_some]
      · have hl : l = [] := List.length_eq_zero_iff.1 (by omega)
        subst hl
        simp at e4 ⊢
        exact ⟨e4, by have := wrap_succ (n := i) (by omega); simpa using this⟩
    · rw [if_neg hc, if_neg hc]
      simp) (by unfold rf04_Of.l1; simp)
  rw [show ([] : List Sp) = ofS m 0 from rfl, show (0 : Int) = ((0 : Nat) : Int) from rfl, this]; rfl

def inSp (s : Sp) (q : Nat) : Prop := s.1 ≤ q ∧ (q : Int) - s.1 < s.2.2
instance (s : Sp) (q : Nat) : Decidable (inSp s q) := by unfold inSp; infer_instance
def valSp (s : Sp) (q : Nat) : Int := IntKind.i64.wrap (s.2.1 + IntKind.i64.wrap ((q : Int) - s.1))
def paintTo (m : List Int) (s : Sp) (i : Nat) : List Int := (List.range m.length).map fun q => if q < i ∧ inSp s q then valSp s q else m.getD q 0

theorem paint_len (m : List Int) (s : Sp) (i : Nat) : (paintTo m s i).length = m.length := by simp [paintTo]
theorem paint_at (m : List Int) (s : Sp) (i q : Nat) (hq : q < m.length) : (paintTo m s i).getD q 0 = if q < i ∧ inSp s q then valSp s q else m.getD q 0 := by
  simp [paintTo, List.getD, hq]
theorem ext_getD {l m : List Int} (hl : l.length = m.length) (h : ∀ q, q < l.length → l.getD q 0 = m.getD q 0) : l = m := by
  apply List.ext_getElem hl
  intro q h1 h2
  have := h q h1
  simpa [List.getD, h1, h2] using this
theorem set_at (l : List Int) (i q : Nat) (v : Int) (hq : q < l.length) : (l.set i v).getD q 0 = if q = i then v else l.getD q 0 := by
  by_cases h : q = i
  · subst h; simp [List.getD, hq]
  · have h' : i ≠ q := fun e => h e.symm
    simp [List.getD, h, h']
theorem paint_set (m : List Int) (s : Sp) (i : Nat) (hi : i < m.length) (hp : inSp s i) : (paintTo m s i).set i (valSp s i) = paintTo m s (i + 1) := by
  refine ext_getD (by simp [paint_len]) fun q hq => ?_
  simp only [List.length_set, paint_len] at hq
  rw [set_at _ _ _ _ (by rw [paint_len]; exact hq), paint_at _ _ _ _ hq, paint_at _ _ _ _ hq]
  by_cases h : q = i
  · subst h; simp [hp]
  · have : q < i ↔ q < i + 1 := by omega
    simp [h, this]
theorem paint_none (m : List Int) (s : Sp) (i : Nat) (hp : ∀ q, q < i → q < m.length → ¬ inSp s q) : paintTo m s i = m := by
  refine ext_getD (by simp [paint_len]) fun q hq => ?_
  simp only [paint_len] at hq
  rw [paint_at _ _ _ _ hq, if_neg]
  rintro ⟨h1, h2⟩; exact hp q h1 hq h2
theorem paint_rest (m : List Int) (s : Sp) (i : Nat) (hi : i ≤ m.length) (hp : ∀ q, i ≤ q → q < m.length → ¬ inSp s q) : paintTo m s i = paintTo m s m.length := by
  refine ext_getD (by simp [paint_len]) fun q hq => ?_
  simp only [paint_len] at hq
  rw [paint_at _ _ _ _ hq, paint_at _ _ _ _ hq]
  by_cases h : q < i
  · simp [h, hq]
  · have := hp q (by omega) hq
    simp [this]

def okSp (s : Sp) : Prop := -1000000 ≤ s.1 ∧ s.1 ≤ 1000000 ∧ s.2.2 ≤ 1000000

theorem has_is (s : Sp) (i : Nat) (h : okSp s) (hi : i ≤ 1000000) : spans_has (s, (i : Int)) = some (decide (inSp s i)) := by
  obtain ⟨h1, h2, h3⟩ := h
  unfold spans_has
  simp only
  by_cases hc : s.1 ≤ (i : Int)
  · rw [if_pos (by simpa using hc)]
    have e : IntKind.u64.wrap (IntKind.u64.wrap (i : Int) - IntKind.u64.wrap s.1) = (i : Int) - s.1 := by
      simp [IntKind.wrap, IntKind.signed, IntKind.bits]
      omega
    have e2 : IntKind.u64.wrap (if 0 > s.2.2 then 0 else s.2.2) = (if 0 > s.2.2 then 0 else s.2.2) := wrapu64 (by split <;> omega) (by split <;> omega)
    rw [e, e2]
    refine congrArg some (decide_eq_decide.2 ⟨fun h => ⟨hc, ?_⟩, fun h => ?_⟩)
    · split at h <;> omega
    · have := h.2
      split <;> omega
  · rw [if_neg (by simpa using hc)]
    exact congrArg some (decide_eq_false fun (h : inSp s i) => hc h.1).symm

def mapS (l : List Sp) (n : Nat) : Nat → List Int
  | 0 => List.replicate n 0
  | k + 1 => paintTo (mapS l n k) (l.getD k sp0) n

theorem mapS_len (l : List Sp) (n : Nat) : ∀ k, (mapS l n k).length = n
  | 0 => by simp [mapS]
  | k + 1 => by rw [mapS, paint_len, mapS_len l n k]

def cl (n1 : Int) : Int := if 65536 < (if 0 > n1 then 0 else n1) then 65536 else (if 0 > n1 then 0 else n1)
theorem cl_ok (n1 : Int) : 0 ≤ cl n1 ∧ cl n1 ≤ 65536 := by unfold cl; split <;> split at * <;> omega

theorem Map_is (l : List Sp) (n1 : Int) (hl : l.length ≤ 1048576) (hs : ∀ k, k < l.length → okSp (l.getD k sp0)) : spans_Map (l, n1) = some (mapS l (cl n1).toNat l.length) := by
  obtain ⟨c1, c2⟩ := cl_ok n1
  unfold spans_Map
  simp only
  rw [show (if 65536 < (if 0 > n1 then 0 else n1) then 65536 else (if 0 > n1 then 0 else n1)) = cl n1 from rfl]
  rw [if_pos (by omega)]
  generalize hN : (cl n1).toNat = N
  have hN2 : N ≤ 65536 := by omega
  have := loop_run (f := spans_Map.l1) (fun k => (mapS l N k, l, (l.length : Int), (k : Int))) (n := l.length) (r := mapS l N l.length) (fun k hk => by
    unfold spans_Map.l1
    dsimp only
    rw [if_pos (by simp; omega), if_pos (by omega)]
    have hm := mapS_len l N k
    have hok := hs k hk
    have hww : IntKind.i64.wrap ((k : Int) + 1) = ((k + 1 : Nat) : Int) := wrap_succ (by omega)
    have hsp : l.getD k sp0 = l.getD ((k : Int)).toNat (0, 0, 0) := by rw [Int.toNat_natCast]
    rw [hww, mapS]
    rw [hsp] at hok ⊢
    generalize l.getD ((k : Int)).toNat (0, 0, 0) = s at hok ⊢
    rw [hm]
    obtain ⟨h1, h2, h3⟩ := hok
    by_cases q0 : s.2.2 ≤ 0
    · rw [if_neg (by simp; omega)]
      have := paint_none (mapS l N k) s N fun q _ _ (h : inSp s q) => by have h4 := h.1; have h5 := h.2; omega
      rw [this]
    · rw [if_pos (by simp; omega)]
      by_cases q1 : s.1 ≥ (N : Int)
      · rw [if_pos (by simpa using q1)]
        have := paint_none (mapS l N k) s N fun q hq _ (h : inSp s q) => by have h4 := h.1; omega
        rw [this]
      · rw [if_neg (by simpa using q1)]
        obtain ⟨a0, ha0⟩ : ∃ a0 : Nat, (if 0 > s.1 then 0 else s.1) = (a0 : Int) := ⟨(if 0 > s.1 then 0 else s.1).toNat, by split <;> omega⟩
        have ha : a0 ≤ N ∧ (∀ q, q < a0 → ¬ inSp s q) := by
          refine ⟨by split at ha0 <;> omega, fun q hq h => ?_⟩
          have h4 := h.1
          split at ha0 <;> omega
        rw [ha0]
        obtain ⟨sa, sb, sc⟩ := s
        obtain ⟨j, g1, g2, g3, g4, g5⟩ := loop_first (f := spans_Map.l2) (fun i => ((paintTo (mapS l N k) (sa, sb, sc) i, sa, sb, sc), (i : Int), l, (l.length : Int), (k : Int))) (fun i => !decide (inSp (sa, sb, sc) i)) (n := N)
          (r := fun i => (paintTo (mapS l N k) (sa, sb, sc) i, l, (l.length : Int), (k : Int))) (N - a0) a0 (by omega) (fun i hi1 hi2 => by
            unfold spans_Map.l2
            simp only [paint_len, hm]
            rw [if_pos (by simp; omega), has_is _ _ ⟨h1, h2, h3⟩ (by omega)]
            simp only [Option.bind_some]
            by_cases hp : inSp (sa, sb, sc) i
            · have hset := paint_set (mapS l N k) (sa, sb, sc) i (by omega) hp
              have hw : IntKind.i64.wrap ((i : Int) + 1) = ((i + 1 : Nat) : Int) := wrap_succ (by omega)
              have e3 : 0 ≤ (i : Int) ∧ (i : Int) < (N : Int) := by omega
              simp only [valSp] at hset
              simp only [hp, decide_true, Bool.not_true, if_true, Bool.false_eq_true, if_false, e3, and_self, hw, Int.toNat_natCast, hset]
            · simp only [hp, decide_false, Bool.not_false, if_true, Bool.false_eq_true, if_false]) (by
            unfold spans_Map.l2
            simp only [paint_len, hm]
            rw [if_neg (by simp)])
        rw [paint_none _ _ a0 (fun q h _ => ha.2 q h)] at g5
        rw [g5]
        simp only [Option.bind_some]
        have := paint_rest (mapS l N k) (sa, sb, sc) j (by omega) (fun q hq1 hq2 h => by
          rcases Nat.lt_or_ge j N with hj | hj
          · have h6 := g4 hj
            simp only [Bool.not_eq_true', decide_eq_false_iff_not] at h6
            refine h6 ⟨?_, ?_⟩
            · show sa ≤ (j : Int)
              split at ha0 <;> omega
            · have := h.2
              show (j : Int) - sa < sc
              have h7 : (q : Int) - sa < sc := this
              omega
          · omega)
        rw [hm] at this
        simp only [hww, this]) (by unfold spans_Map.l1; simp)
  rw [show (List.replicate N (0 : Int)) = mapS l N 0 from rfl, show (0 : Int) = ((0 : Nat) : Int) from rfl, this]; rfl

/-! ### Comparisons -/

theorem sameInts (a : List Int) (h : a.length ≤ 1048576) : rf01_Same (a, a) = some true := by
  unfold rf01_Same
  dsimp only
  rw [if_neg (by simp)]
  have := loop_run (f := rf01_Same.l1) (fun i => (a, a, (i : Int))) (n := a.length) (r := .inl ()) (fun i hi => by
    unfold rf01_Same.l1
    dsimp only
    rw [if_pos (by simp; omega), if_pos (by omega), if_pos (by omega), if_neg (by simp)]
    rw [wrap_succ (by omega)]) (by unfold rf01_Same.l1; simp)
  rw [show (0 : Int) = ((0 : Nat) : Int) from rfl, this]; rfl

def clampS (s : Sp) : Sp := ((if 70000 < (if (-1000) > s.1 then (-1000) else s.1) then 70000 else (if (-1000) > s.1 then (-1000) else s.1)), (if 70000 < (if (-1000) > s.2.1 then (-1000) else s.2.1) then 70000 else (if (-1000) > s.2.1 then (-1000) else s.2.1)), (if 300 < s.2.2 then 300 else s.2.2))
def fewS (l : List Sp) : List Sp := (l.take 8).map clampS

def okS (s : Sp) : Prop := 0 ≤ s.1 ∧ 1 ≤ s.2.1 ∧ 1 ≤ s.2.2 ∧ s.2.2 < 65536 ∧ s.1 ≤ 65536 - s.2.2 ∧ s.2.1 ≤ 65536 - s.2.2
def nextOk (a b : Sp) : Prop := a.1 + a.2.2 ≤ b.1 ∧ ¬ (a.1 + a.2.2 = b.1 ∧ a.2.1 + a.2.2 = b.2.1)
instance (s : Sp) : Decidable (okS s) := by unfold okS; infer_instance
instance (a b : Sp) : Decidable (nextOk a b) := by unfold nextOk; infer_instance

def Good : List Sp → Prop
  | [] => True
  | [s] => okS s
  | a :: b :: r => okS a ∧ nextOk a b ∧ Good (b :: r)

theorem Good.head {s : Sp} {r : List Sp} (h : Good (s :: r)) : okS s := by
  cases r with
  | nil => exact h
  | cons b r => exact h.1
theorem Good.tail {s : Sp} {r : List Sp} (h : Good (s :: r)) : Good r := by
  cases r with
  | nil => trivial
  | cons b r => exact h.2.2
theorem good_index : ∀ (l : List Sp), Good l ↔ ∀ k, k < l.length → okS (l.getD k sp0) ∧ (0 < k → nextOk (l.getD (k - 1) sp0) (l.getD k sp0))
  | [] => by simp [Good]
  | [s] => by
    constructor
    · intro h k hk
      have : k = 0 := by simpa using hk
      subst this
      exact ⟨h, fun h => by omega⟩
    · intro h; exact (h 0 (by simp)).1
  | a :: b :: r => by
    have ih := good_index (b :: r)
    constructor
    · rintro ⟨h1, h2, h3⟩ k hk
      cases k with
      | zero => exact ⟨h1, fun h => by omega⟩
      | succ k =>
        obtain ⟨q1, q2⟩ := ih.1 h3 k (by simpa using hk)
        refine ⟨by simpa [List.getD] using q1, fun _ => ?_⟩
        cases k with
        | zero => simpa [List.getD] using h2
        | succ k => simpa [List.getD] using q2 (by omega)
    · intro h
      refine ⟨(h 0 (by simp)).1, by simpa [List.getD] using (h 1 (by simp)).2 (by omega), ih.2 fun k hk => ?_⟩
      obtain ⟨q1, q2⟩ := h (k + 1) (by simpa using hk)
      refine ⟨by simpa [List.getD] using q1, fun h0 => ?_⟩
      have := q2 (by omega)
      cases k with
      | zero => omega
      | succ k => simpa [List.getD] using this

/-- No number is far out. -/
def near0 (s : Sp) : Prop := -1000000 ≤ s.1 ∧ s.1 ≤ 1000000 ∧ -1000000 ≤ s.2.1 ∧ s.2.1 ≤ 1000000 ∧ s.2.2 ≤ 1000000 ∧ -9223372036854775808 ≤ s.2.2

theorem joins_eq (a b : Sp) (h1 : -1000000 ≤ a.1 ∧ a.1 ≤ 1000000) (h2 : -1000000 ≤ a.2.1 ∧ a.2.1 ≤ 1000000) (h3 : -1000000 ≤ a.2.2 ∧ a.2.2 ≤ 1000000) :
    joinsS a b = decide (a.1 + a.2.2 = b.1 ∧ a.2.1 + a.2.2 = b.2.1) := by
  unfold joinsS
  rw [wrap64 (n := a.1 + a.2.2) (by omega) (by omega), wrap64 (n := a.2.1 + a.2.2) (by omega) (by omega), Bool.decide_and]
  rfl

def badAt (l : List Sp) (k : Nat) : Bool := !(decide (okS (l.getD k sp0)) && (decide (k = 0) || decide (nextOk (l.getD (k - 1) sp0) (l.getD k sp0))))

/-! ### What is cut -/

def cutS : List Sp → Int → List Sp
  | [], _ => []
  | s :: r, n => if s.1 < n then (s.1, s.2.1, (if n - s.1 < s.2.2 then n - s.1 else s.2.2)) :: cutS r n else []

theorem good_mem : ∀ {l : List Sp}, Good l → ∀ s ∈ l, okS s
  | [], _, s, hs => by cases hs
  | a :: r, h, s, hs => by
    rcases List.mem_cons.1 hs with rfl | hs
    · exact h.head
    · exact good_mem h.tail s hs
/-! ### The blocks that spans say -/

def val : List Sp → Int → Int
  | [], _ => 0
  | s :: r, q => if s.1 ≤ q ∧ q - s.1 < s.2.2 then s.2.1 + (q - s.1) else val r q

theorem good_starts : ∀ {s : Sp} {r : List Sp}, Good (s :: r) → ∀ t ∈ r, s.1 + s.2.2 ≤ t.1
  | s, [], _, t, ht => by cases ht
  | s, b :: r, h, t, ht => by
    have h2 := h.2.1.1
    rcases List.mem_cons.1 ht with rfl | ht
    · exact h2
    · have := good_starts h.2.2 t ht
      have hb := h.2.2.head.2.2.1
      omega

theorem val_before : ∀ {l : List Sp} {q : Int}, (∀ t ∈ l, q < t.1) → val l q = 0
  | [], _, _ => rfl
  | s :: r, q, h => by
    have h1 := h s List.mem_cons_self
    simp only [val]
    rw [if_neg (by omega)]
    exact val_before fun t ht => h t (List.mem_cons_of_mem _ ht)

theorem addS_cons {s : Sp} {l : List Sp} {x : Sp} (h : l ≠ []) : addS (s :: l) x = s :: addS l x := by
  have hl : 0 < l.length := List.length_pos_iff.2 h
  have e : lastSp (s :: l) = lastSp l := by
    unfold lastSp
    obtain ⟨n, hn⟩ : ∃ n, l.length = n + 1 := ⟨l.length - 1, by omega⟩
    simp [List.getD, hn]
  unfold addS
  rw [e]
  by_cases hj : joinsS (lastSp l) x = true
  · rw [if_pos ⟨by simp, hj⟩, if_pos ⟨hl, hj⟩]
    obtain ⟨n, hn⟩ : ∃ n, l.length = n + 1 := ⟨l.length - 1, by omega⟩
    simp [hn]
  · rw [if_neg (by simp [hj]), if_neg (by simp [hj])]
    rfl

/-- Spans of the blocks that f says. -/
def ofF (f : Int → Int) : Nat → List Sp
  | 0 => []
  | i + 1 => if 0 < f i ∧ f i < 65536 then addS (ofF f i) (i, f i, 1) else ofF f i

theorem ofS_ofF (m : List Int) : ∀ i, ofS m i = ofF (fun q => m.getD q.toNat 0) i
  | 0 => rfl
  | i + 1 => by simp only [ofS, ofF, ofS_ofF m i, Int.toNat_natCast]

/-! ### Spans of a map are in order, and say the map -/

def clip (b : Int) : Int := if 0 < b ∧ b < 65536 then b else 0

/-- Ends lie at most at n. -/
def Ends (l : List Sp) (n : Int) : Prop := ∀ t ∈ l, t.1 + t.2.2 ≤ n

theorem val_append : ∀ (l r : List Sp) (q : Int), (∀ t ∈ r, q < t.1) → val (l ++ r) q = val l q
  | [], r, q, h => by rw [List.nil_append, val_before h]; rfl
  | s :: l, r, q, h => by
    simp only [List.cons_append, val, val_append l r q h]

theorem val_past : ∀ {l : List Sp} {q : Int}, Ends l q → val l q = 0
  | [], _, _ => rfl
  | s :: r, q, h => by
    have h1 := h s List.mem_cons_self
    simp only [val]
    rw [if_neg (by omega)]
    exact val_past fun t ht => h t (List.mem_cons_of_mem _ ht)

theorem okS_new {i b : Int} (h0 : 0 ≤ i) (h1 : i < 65536) (h2 : 0 < b) (h3 : b < 65536) : okS (i, b, 1) := by
  refine ⟨?_, ?_, ?_, ?_, ?_, ?_⟩ <;> dsimp only <;> omega

/-- One place more. -/
theorem add_good : ∀ (l : List Sp) (i b : Int), Good l → Ends l i → 0 ≤ i → i < 65536 → 0 < b → b < 65536 →
    Good (addS l (i, b, 1)) ∧ Ends (addS l (i, b, 1)) (i + 1) ∧ (∀ q, q < i → val (addS l (i, b, 1)) q = val l q) ∧ val (addS l (i, b, 1)) i = b ∧ (∀ s ∈ l.head?, ∃ s' ∈ (addS l (i, b, 1)).head?, s'.1 = s.1 ∧ s'.2.1 = s.2.1)
  | [], i, b, _, _, h0, h1, h2, h3 => by
    have e : addS [] (i, b, 1) = [(i, b, 1)] := rfl
    rw [e]
    refine ⟨okS_new h0 h1 h2 h3, fun t ht => ?_, fun q hq => ?_, ?_, fun s hs => by simp at hs⟩
    · simp only [List.mem_singleton] at ht
      subst ht; dsimp only; omega
    · simp only [val]; rw [if_neg (by omega)]
    · simp only [val]; rw [if_pos (by omega)]; omega
  | [s], i, b, hg, he, h0, h1, h2, h3 => by
    have hg' : okS s := hg
    obtain ⟨o1, o2, o3, o4, o5, o6⟩ := hg'
    have hg' : okS s := hg
    have hes := he s List.mem_cons_self
    have el : lastSp [s] = s := rfl
    by_cases hj : s.1 + s.2.2 = i ∧ s.2.1 + s.2.2 = b
    · have e : addS [s] (i, b, 1) = [(s.1, s.2.1, s.2.2 + 1)] := by
        unfold addS
        rw [el, joins_eq _ _ (by omega) (by omega) (by omega), if_pos ⟨by simp, by simpa using hj⟩, wrap64 (n := s.2.2 + 1) (by omega) (by omega)]
        rfl
      rw [e]
      refine ⟨⟨by dsimp only; omega, by dsimp only; omega, by dsimp only; omega, by dsimp only; omega, by dsimp only; omega, by dsimp only; omega⟩, fun t ht => ?_, fun q hq => ?_, ?_, fun t ht => ?_⟩
      · simp only [List.mem_singleton] at ht
        subst ht; dsimp only; omega
      · simp only [val]
        by_cases hq2 : s.1 ≤ q
        · rw [if_pos (by omega), if_pos (by omega)]
        · rw [if_neg (by omega), if_neg (by omega)]
      · simp only [val]; rw [if_pos (by omega)]; omega
      · simp only [List.head?_cons, Option.mem_def, Option.some.injEq] at ht
        subst ht; exact ⟨_, rfl, rfl, rfl⟩
    · have e : addS [s] (i, b, 1) = [s, (i, b, 1)] := by
        unfold addS
        rw [el, joins_eq _ _ (by omega) (by omega) (by omega), if_neg (by rintro ⟨_, h⟩; exact hj (by simpa using h))]
        rfl
      rw [e]
      refine ⟨⟨hg', ⟨hes, hj⟩, okS_new h0 h1 h2 h3⟩, fun t ht => ?_, fun q hq => ?_, ?_, fun t ht => ?_⟩
      · rcases List.mem_cons.1 ht with rfl | ht
        · omega
        · simp only [List.mem_singleton] at ht
          subst ht; dsimp only; omega
      · exact val_append [s] [(i, b, 1)] q fun t ht => by
          simp only [List.mem_singleton] at ht
          subst ht; exact hq
      · simp only [val]
        rw [if_neg (by omega), if_pos (by omega)]; omega
      · simp only [List.head?_cons, Option.mem_def, Option.some.injEq] at ht
        subst ht; exact ⟨_, rfl, rfl, rfl⟩
  | s :: c :: r, i, b, hg, he, h0, h1, h2, h3 => by
    obtain ⟨g1, g2, g3, g4, g5⟩ := add_good (c :: r) i b hg.2.2 (fun t ht => he t (List.mem_cons_of_mem _ ht)) h0 h1 h2 h3
    rw [addS_cons (by simp)]
    obtain ⟨c', hc', e1, e2⟩ := g5 c rfl
    have hes := he s List.mem_cons_self
    have hec := he c (by simp)
    have hokc := hg.2.2.head.2.2.1
    refine ⟨?_, fun t ht => ?_, fun q hq => ?_, ?_, fun t ht => ?_⟩
    · cases hx : addS (c :: r) (i, b, 1) with
      | nil => rw [hx] at hc'; cases hc'
      | cons d r' =>
        rw [hx] at hc' g1
        simp only [List.head?_cons, Option.mem_def, Option.some.injEq] at hc'
        subst hc'
        refine ⟨hg.1, ⟨by rw [e1]; exact hg.2.1.1, by rw [e1, e2]; exact hg.2.1.2⟩, g1⟩
    · rcases List.mem_cons.1 ht with rfl | ht
      · omega
      · exact g2 t ht
    · simp only [val, g3 q hq]
    · simp only [val] at g4 ⊢
      rw [if_neg (by omega)]; exact g4
    · simp only [List.head?_cons, Option.mem_def, Option.some.injEq] at ht
      subst ht; exact ⟨_, rfl, rfl, rfl⟩

theorem ofF_good (f : Int → Int) : ∀ i : Nat, i ≤ 65536 → Good (ofF f i) ∧ Ends (ofF f i) i ∧ ∀ q : Nat, q < i → val (ofF f i) q = clip (f q)
  | 0, _ => ⟨trivial, fun t ht => (by cases ht), fun q hq => by omega⟩
  | i + 1, h => by
    obtain ⟨g1, g2, g3⟩ := ofF_good f i (by omega)
    simp only [ofF]
    split
    · rename_i hc
      obtain ⟨k1, k2, k3, k4, _⟩ := add_good (ofF f i) i (f i) g1 g2 (by omega) (by omega) hc.1 hc.2
      refine ⟨k1, by rw [show ((i + 1 : Nat) : Int) = (i : Int) + 1 by omega]; exact k2, fun q hq => ?_⟩
      by_cases hqi : q = i
      · subst hqi; rw [k4, clip, if_pos hc]
      · rw [k3 q (by omega), g3 q (by omega)]
    · rename_i hc
      refine ⟨g1, fun t ht => by have := g2 t ht; omega, fun q hq => ?_⟩
      by_cases hqi : q = i
      · subst hqi; rw [val_past g2, clip, if_neg hc]
      · rw [g3 q (by omega)]

theorem ofS_good (m : List Int) (h : m.length ≤ 65536) : Good (ofS m m.length) ∧ Ends (ofS m m.length) m.length ∧ ∀ q : Nat, q < m.length → val (ofS m m.length) q = clip (m.getD q 0) := by
  rw [ofS_ofF]
  obtain ⟨h1, h2, h3⟩ := ofF_good (fun q => m.getD q.toNat 0) m.length h
  exact ⟨h1, h2, fun q hq => by rw [h3 q hq, Int.toNat_natCast]⟩

theorem val_snoc : ∀ (l : List Sp) (s : Sp) (q : Int), Good (l ++ [s]) → val (l ++ [s]) q = if s.1 ≤ q ∧ q - s.1 < s.2.2 then s.2.1 + (q - s.1) else val l q
  | [], s, q, _ => rfl
  | h :: l, s, q, hg => by
    have ih := val_snoc l s q hg.tail
    have hs := good_starts hg s (by simp)
    have e : val (h :: l ++ [s]) q = if h.1 ≤ q ∧ q - h.1 < h.2.2 then h.2.1 + (q - h.1) else val (l ++ [s]) q := rfl
    have e2 : val (h :: l) q = if h.1 ≤ q ∧ q - h.1 < h.2.2 then h.2.1 + (q - h.1) else val l q := rfl
    rw [e, e2, ih]
    by_cases c : h.1 ≤ q ∧ q - h.1 < h.2.2
    · rw [if_pos c, if_neg (by omega), if_pos c]
    · rw [if_neg c, if_neg c]

theorem good_take {l : List Sp} (h : Good l) (k : Nat) : Good (l.take k) := by
  rw [good_index] at h ⊢
  intro j hj
  have hj2 : j < k ∧ j < l.length := by simp at hj; omega
  have e : ∀ i, i < k → (l.take k).getD i sp0 = l.getD i sp0 := fun i hi => by simp [List.getD, List.getElem?_take, hi]
  obtain ⟨h1, h2⟩ := h j hj2.2
  rw [e j hj2.1]
  refine ⟨h1, fun h0 => ?_⟩
  rw [e (j - 1) (by omega)]
  exact h2 h0

theorem mapS_val {l : List Sp} (h : Good l) (n : Nat) : ∀ k, k ≤ l.length → ∀ q : Nat, q < n → (mapS l n k).getD q 0 = val (l.take k) q
  | 0, _, q, hq => by simp [mapS, val, List.getD, hq]
  | k + 1, hk, q, hq => by
    have ih := mapS_val h n k (by omega) q hq
    have hm := mapS_len l n k
    have et := take_succ_getD (show k < l.length by omega) sp0
    have hgt := good_take h (k + 1)
    rw [et] at hgt ⊢
    rw [val_snoc _ _ _ hgt, mapS, paint_at _ _ _ _ (by rw [hm]; exact hq), ih]
    have hok := ((good_index l).1 h k (by omega)).1
    obtain ⟨o1, o2, o3, o4, o5, o6⟩ := hok
    by_cases c : inSp (l.getD k sp0) q
    · rw [if_pos ⟨hq, c⟩, if_pos (show _ ∧ _ from c)]
      have c1 := c.1
      have c2 := c.2
      unfold valSp
      rw [wrap64 (n := (q : Int) - (l.getD k sp0).1) (by omega) (by omega), wrap64 (by omega) (by omega)]
    · have c' : ¬ ((l.getD k sp0).1 ≤ (q : Int) ∧ (q : Int) - (l.getD k sp0).1 < (l.getD k sp0).2.2) := c
      rw [if_neg (fun hh => c hh.2), if_neg c']

/-! ### A map comes back -/

def sumLen : List Sp → Int
  | [] => 0
  | s :: r => s.2.2 + sumLen r

/-- How many are not 0. -/
def used (m : List Int) : Nat → Nat
  | 0 => 0
  | i + 1 => if m.getD i 0 = 0 then used m i else used m i + 1
end Go.Proofs.YtlbammfnkphajaaGreatDoor.Abs.Sn
