/- Texts of so many bytes: what the program's functions and the document's say. -/
import Derived.Test.YtldmeogadmgkiaaDoorFns
import Derived.Test.YtldmeogadmgkiaaDoorAbsLoops
namespace Go.Proofs.YtldmeogadmgkiaaDoor.Abs
open Go
set_option linter.unusedVariables false
attribute [-simp] List.getD_eq_getElem?_getD

theorem indexByte_is (c : UInt8) : ∀ (l : List UInt8), Lib.indexByte l c = if l.findIdx (· == c) < l.length then ((l.findIdx (· == c) : Nat) : Int) else -1
  | [] => rfl
  | b :: l => by
    rw [Lib.indexByte, indexByte_is c l, List.findIdx_cons]
    cases h : (b == c)
    · by_cases h2 : l.findIdx (· == c) < l.length
      · have e : (((l.findIdx (· == c) : Nat) : Int) == -1) = false := by rw [beq_eq_false_iff_ne]; omega
        simp only [if_pos h2, e, Bool.false_eq_true, if_false, cond_false, List.length_cons]
        rw [if_pos (show l.findIdx (· == c) + 1 < l.length + 1 by omega)]
        simp
      · simp only [if_neg h2, Bool.false_eq_true, if_false, cond_false, List.length_cons]
        rw [if_neg (show ¬ l.findIdx (· == c) + 1 < l.length + 1 by omega)]
        rfl
    · simp

theorem repeatL_one (b : UInt8) : ∀ n, Lib.repeatL [b] n = List.replicate n b
  | 0 => rfl
  | n + 1 => by rw [Lib.repeatL, repeatL_one b n, List.replicate_succ]; rfl

def fitsS (s : List UInt8) (n : Int) : Int := if n < 0 ∨ n > 1000 then 1 else if (s.length : Int) > n then 3 else 0
def padS0 (s : List UInt8) (n : Int) : List UInt8 × Int := if n < 0 ∨ n > 1000 then ([], 1) else if (s.length : Int) > n then ([], 3) else (s ++ List.replicate (n.toNat - s.length) 0, 0)
def textS (s : List UInt8) (n : Int) : List UInt8 × Int := if (padS0 s n).2 ≠ 0 then ([], (padS0 s n).2) else if s.any (· == 0) = true then ([], 3) else padS0 s n
def untextS (s : List UInt8) : List UInt8 × Int := if (s.drop (s.findIdx (· == 0))).all (· == 0) = true then (s.take (s.findIdx (· == 0)), 0) else ([], 15)

theorem fits_is (s : List UInt8) (n : Int) : mould_fits (s, n) = some (fitsS s n) := by
  unfold mould_fits fitsS
  by_cases h1 : n < 0 <;> by_cases h2 : n > 1000 <;> by_cases h3 : (s.length : Int) > n <;> simp [h1, h2, h3] <;> omega

theorem pad_is (s : List UInt8) (n : Int) : mould_Pad (s, n) = some (padS0 s n) := by
  unfold mould_Pad padS0
  simp only
  rw [fits_is, Option.bind_some]
  unfold fitsS
  by_cases h1 : n < 0 ∨ n > 1000
  · rw [if_pos h1, if_pos h1]; rfl
  · rw [if_neg h1, if_neg h1]
    by_cases h3 : (s.length : Int) > n
    · rw [if_pos h3, if_pos h3]; rfl
    · rw [if_neg h3, if_neg h3, if_neg (by decide), wrap64 (by omega) (by omega)]
      unfold strings_Repeat
      simp only
      rw [if_pos ⟨by omega, by omega, by simp; omega⟩, Option.bind_some, repeatL_one, if_pos (by simp; omega), show (n - (s.length : Int)).toNat = n.toNat - s.length by omega]

theorem text_is (s : List UInt8) (n : Int) : mould_Text (s, n) = some (textS s n) := by
  unfold mould_Text textS
  simp only
  rw [fits_is, Option.bind_some]
  unfold fitsS padS0
  by_cases h1 : n < 0 ∨ n > 1000
  · rw [if_pos h1, if_pos h1]; rfl
  · rw [if_neg h1, if_neg h1]
    by_cases h3 : (s.length : Int) > n
    · rw [if_pos h3, if_pos h3]; rfl
    · rw [if_neg h3, if_neg h3, if_neg (by decide)]
      unfold strings_IndexByte
      simp only
      rw [if_pos (Nat.le_refl _), Option.bind_some, show (0 : Int).toNat.toUInt8 = 0 from rfl, indexByte_is, if_neg (show ¬ (0 : Int) ≠ 0 by simp)]
      by_cases hz : s.findIdx (· == 0) < s.length
      · rw [if_pos hz, if_pos (show decide (((s.findIdx (· == 0) : Nat) : Int) ≥ 0) = true by simp), if_pos]
        exact List.any_eq_true.2 ⟨s[s.findIdx (· == 0)], List.getElem_mem _, List.findIdx_getElem (p := (· == (0 : UInt8)))⟩
      · rw [if_neg hz, if_neg (show ¬ decide ((-1 : Int) ≥ 0) = true by simp), pad_is, Option.bind_some, if_neg]
        · unfold padS0
          rw [if_neg h1, if_neg h3]
        · intro ha
          obtain ⟨x, hx, hp⟩ := List.any_eq_true.1 ha
          exact hz (List.findIdx_lt_length_of_exists ⟨x, hx, hp⟩)

theorem trimRight_is (s : List UInt8) : s.length ≤ 4611686018427387904 → strings_trimRightByte (s, 0) = some (s.reverse.dropWhile (· == 0)).reverse := by
  intro hs
  have key : loopO strings_trimRightByte.l1 (s, 0) = some (s.reverse.dropWhile (· == 0)).reverse := by
    induction hn : s.length generalizing s with
    | zero =>
      have : s = [] := List.length_eq_zero_iff.1 hn
      subst this
      exact loopO_inr rfl
    | succ n ih =>
      obtain ⟨l, a, rfl⟩ : ∃ l a, s = l ++ [a] := ⟨s.dropLast, s.getLast (by intro e; rw [e] at hn; cases hn), (List.dropLast_concat_getLast _).symm⟩
      have hl : l.length = n := by simpa using hn
      have hw : IntKind.i64.wrap (((l ++ [a]).length : Int) - 1) = (l.length : Int) := by rw [List.length_append, List.length_singleton, wrap64 (by omega) (by simp at hs; omega)]; omega
      have hg : (l ++ [a]).getD l.length 0 = a := by simp [List.getD]
      have step : strings_trimRightByte.l1 (l ++ [a], 0) = if (a == 0) = true then some (.inl (l, 0)) else some (.inr (l ++ [a])) := by
        unfold strings_trimRightByte.l1
        simp only
        have hll : (((l ++ [a]).length : Nat) : Int) = (l.length : Int) + 1 := by simp
        rw [hw, hll, if_pos (show decide ((l.length : Int) + 1 > 0) = true by rw [decide_eq_true_eq]; omega), if_pos (show 0 ≤ (l.length : Int) ∧ (l.length : Int) < (l.length : Int) + 1 by omega), Int.toNat_natCast, hg, if_pos (show 0 ≤ (l.length : Int) ∧ (l.length : Int) ≤ (l.length : Int) + 1 by omega)]
        have : (((a.toNat : Int) == 0) = true) ↔ (a == 0) = true := by
          rw [beq_iff_eq, beq_iff_eq]
          constructor
          · intro h; exact UInt8.toNat_inj.1 (by simpa using h)
          · intro h; subst h; rfl
        by_cases h : (a == 0) = true
        · rw [if_pos (this.2 h), if_pos h]
          simp
        · rw [if_neg (fun q => h (this.1 q)), if_neg h]
      rw [List.reverse_append, List.reverse_singleton, List.singleton_append, List.dropWhile_cons]
      by_cases h : (a == 0) = true
      · rw [if_pos h] at step ⊢
        rw [loopO_inl step]
        exact ih l (by simp at hs; omega) hl
      · rw [if_neg h] at step ⊢
        rw [loopO_inr step]
        simp
  unfold strings_trimRightByte
  simp only
  rw [key, Option.bind_some]

theorem trimLeft_is : ∀ (s : List UInt8), strings_trimLeftByte (s, 0) = some (s.dropWhile (· == 0)) := by
  intro s
  have key : loopO strings_trimLeftByte.l1 (s, 0) = some (s.dropWhile (· == 0)) := by
    induction s with
    | nil => exact loopO_inr rfl
    | cons a l ih =>
      have step : strings_trimLeftByte.l1 (a :: l, 0) = if (a == 0) = true then some (.inl (l, 0)) else some (.inr (a :: l)) := by
        unfold strings_trimLeftByte.l1
        simp only
        have hll : (((a :: l).length : Nat) : Int) = (l.length : Int) + 1 := by simp
        rw [hll, if_pos (show decide ((l.length : Int) + 1 > 0) = true by rw [decide_eq_true_eq]; omega), if_pos (show (0 : Int) ≤ 0 ∧ (0 : Int) < (l.length : Int) + 1 by omega), if_pos (show (0 : Int) ≤ 1 ∧ (1 : Int) ≤ (l.length : Int) + 1 by omega)]
        have : (((((a :: l).getD 0 0).toNat : Int) == 0) = true) ↔ (a == 0) = true := by
          change (((a.toNat : Int) == 0) = true) ↔ _
          rw [beq_iff_eq, beq_iff_eq]
          constructor
          · intro h; exact UInt8.toNat_inj.1 (by simpa using h)
          · intro h; subst h; rfl
        by_cases h : (a == 0) = true
        · rw [if_pos (this.2 h), if_pos h]
          rfl
        · rw [if_neg (fun q => h (this.1 q)), if_neg h]
      rw [List.dropWhile_cons]
      by_cases h : (a == 0) = true
      · rw [if_pos h] at step ⊢
        rw [loopO_inl step]; exact ih
      · rw [if_neg h] at step ⊢
        exact loopO_inr step
  unfold strings_trimLeftByte
  simp only
  rw [key, Option.bind_some]

theorem dropWhile_nil0 {p : UInt8 → Bool} : ∀ (l : List UInt8), l.dropWhile p = [] ↔ l.all p = true
  | [] => by simp
  | a :: l => by
    rw [List.dropWhile_cons, List.all_cons]
    cases p a <;> simp [dropWhile_nil0 l]

/-- strings.Trim of noughts: something is left, or all are noughts. -/
theorem trim_is (s : List UInt8) (hs : s.length ≤ 4611686018427387904) : ∃ t, strings_Trim (s, [0]) = some t ∧ (t == []) = s.all (· == 0) := by
  unfold strings_Trim
  simp only
  by_cases h0 : s = []
  · subst h0
    exact ⟨[], rfl, rfl⟩
  · refine ⟨(s.reverse.dropWhile (· == 0)).reverse.dropWhile (· == 0), ?_, ?_⟩
    · have h128 : decide (((([0] : List UInt8).getD 0 0).toNat : Int) < 128) = true := by decide +kernel
      rw [if_pos (by simpa using h0), if_neg (by decide), if_pos (by rfl), if_pos (by decide), h128, Option.bind_some]
      dsimp only
      rw [if_pos rfl, if_pos (by decide)]
      change (strings_trimRightByte (s, 0)).bind _ = _
      rw [trimRight_is s hs, Option.bind_some, if_pos (by decide)]
      change (strings_trimLeftByte ((s.reverse.dropWhile (· == 0)).reverse, 0)).bind _ = _
      rw [trimLeft_is, Option.bind_some]
    · have e : ((s.reverse.dropWhile (· == 0)).reverse.dropWhile (· == 0) = []) ↔ s.all (· == 0) = true := by
        rw [dropWhile_nil0]
        constructor
        · intro h
          have h2 : s.reverse.dropWhile (· == 0) = [] := by
            cases hd : s.reverse.dropWhile (· == 0) with
            | nil => rfl
            | cons a t =>
              have h3 := List.head_dropWhile_not (· == 0) (l := s.reverse) (by rw [hd]; simp)
              have h4 := List.all_eq_true.1 h a (by rw [hd]; simp)
              simp only [hd, List.head_cons] at h3
              rw [h3] at h4; cases h4
          rw [dropWhile_nil0] at h2
          simpa using h2
        · intro h
          have h2 : s.reverse.dropWhile (· == 0) = [] := by rw [dropWhile_nil0]; simpa using h
          rw [h2]; rfl
      exact Bool.eq_iff_iff.2 (by rw [beq_iff_eq]; exact e)

theorem cut_is (s : List UInt8) (hs : s.length ≤ 4611686018427387904) : strings_Cut (s, [0]) = some (s.take (s.findIdx (· == 0)), s.drop (s.findIdx (· == 0) + 1), decide (s.findIdx (· == 0) < s.length)) := by
  unfold strings_Cut stringslite_Cut stringslite_Index
  simp only
  rw [if_pos (by rfl), Option.bind_some, show ([0] : List UInt8).getD 0 0 = 0 from rfl, indexByte_is]
  by_cases hz : s.findIdx (· == 0) < s.length
  · rw [if_pos hz, if_pos (by simp), if_pos (by omega), show (([0] : List UInt8).length : Int) = 1 from rfl, wrap_succ (by omega), if_pos (by omega), Option.bind_some]
    simp [hz]
  · rw [if_neg hz, if_neg (by simp), Option.bind_some]
    simp only
    have := List.findIdx_le_length (p := (· == (0 : UInt8))) (xs := s)
    have e : s.findIdx (· == 0) = s.length := by omega
    rw [e, List.take_length, List.drop_eq_nil_of_le (by omega)]
    simp

theorem untext_is (s : List UInt8) (hs : s.length ≤ 4611686018427387904) : mould_Untext s = some (untextS s) := by
  unfold mould_Untext untextS
  rw [cut_is s hs, Option.bind_some]
  simp only
  obtain ⟨t, h1, h2⟩ := trim_is (s.drop (s.findIdx (· == 0) + 1)) (by simp; omega)
  rw [h1, Option.bind_some, h2]
  have e : (s.drop (s.findIdx (· == 0))).all (· == 0) = (s.drop (s.findIdx (· == 0) + 1)).all (· == 0) := by
    by_cases hz : s.findIdx (· == 0) < s.length
    · rw [List.drop_eq_getElem_cons hz, List.all_cons]
      have : (s[s.findIdx (· == 0)] == 0) = true := List.findIdx_getElem (p := (· == (0 : UInt8)))
      rw [this, Bool.true_and]
    · rw [List.drop_eq_nil_of_le (by omega), List.drop_eq_nil_of_le (by omega)]
  rw [e]
  cases (s.drop (s.findIdx (· == 0) + 1)).all (· == 0) <;> rfl

/-! ### The document's -/

theorem zeros_is (n : Int) (h0 : 0 ≤ n) (h : n ≤ 1000) : wainwrightref01_Zeros n = some (List.replicate n.toNat 0) := by
  unfold wainwrightref01_Zeros
  rw [if_pos ⟨h0, by omega, by omega, by omega⟩, List.map_replicate]
  rfl

theorem refPad_is (s : List UInt8) (n : Int) : wainwrightref01_Pad (s, n) = some (padS0 s n) := by
  unfold wainwrightref01_Pad padS0
  simp only
  by_cases h1 : n < 0
  · rw [if_neg (by simp [h1]), if_pos (show n < 0 ∨ n > 1000 from .inl h1)]
  · rw [if_pos (by simpa using h1)]
    by_cases h2 : n > 1000
    · rw [if_pos (by simpa using h2), if_pos (show n < 0 ∨ n > 1000 from .inr h2)]
    · rw [if_neg (by simpa using h2), if_neg (show ¬ (n < 0 ∨ n > 1000) by omega)]
      by_cases h3 : (s.length : Int) > n
      · rw [if_pos (show decide ((s.length : Int) > n) = true by simpa using h3), if_pos h3]
      · rw [if_neg (show ¬ decide ((s.length : Int) > n) = true by simpa using h3), if_neg h3, wrap64 (by omega) (by omega), zeros_is _ (by omega) (by omega), Option.bind_some, if_pos (by simp; omega), show (n - (s.length : Int)).toNat = n.toNat - s.length by omega]

theorem any_findIdx (s : List UInt8) : s.any (· == 0) = decide (s.findIdx (· == 0) < s.length) := by
  refine Bool.eq_iff_iff.2 ?_
  rw [decide_eq_true_eq]
  constructor
  · intro ha
    obtain ⟨x, hx, hp⟩ := List.any_eq_true.1 ha
    exact List.findIdx_lt_length_of_exists ⟨x, hx, hp⟩
  · intro hz
    exact List.any_eq_true.2 ⟨s[s.findIdx (· == 0)], List.getElem_mem _, List.findIdx_getElem (p := (· == (0 : UInt8)))⟩

theorem beq0 (a : UInt8) : ((a.toNat : Int) == 0) = (a == 0) := by
  refine Bool.eq_iff_iff.2 ?_
  rw [beq_iff_eq, beq_iff_eq]
  constructor
  · intro h; exact UInt8.toNat_inj.1 (by simpa using h)
  · intro h; subst h; rfl
theorem bne0 (a : UInt8) : ((a.toNat : Int) != 0) = !(a == 0) := by rw [bne, beq0]

theorem refText_is (s : List UInt8) (n : Int) : wainwrightref01_Text (s, n) = some (textS s n) := by
  unfold wainwrightref01_Text textS
  simp only
  rw [refPad_is, Option.bind_some]
  by_cases he : (padS0 s n).2 ≠ 0
  · rw [if_pos (by simpa using he), if_pos he]
  · rw [if_neg (by simpa using he), if_neg he]
    have hp : s.length ≤ 1000 := by
      unfold padS0 at he
      split at he
      · exact absurd (by decide) he
      · split at he
        · exact absurd (by decide) he
        · omega
    obtain ⟨j, _, h2, h3, h4, h5⟩ := loop_first (f := wainwrightref01_Text.l1) (fun i => (s, (padS0 s n).1, (i : Int))) (fun i => s.getD i 0 == 0) (r := fun i => if i < s.length then .inr ([], 3) else .inl (padS0 s n).1) (n := s.length) s.length 0 (by omega)
      (fun i _ hi => by
        unfold wainwrightref01_Text.l1
        simp only
        rw [if_pos (by simpa using hi), if_pos (by omega), getD_nat, beq0, wrap_succ (by omega), if_pos hi])
      (by unfold wainwrightref01_Text.l1; simp)
    rw [show (s, (padS0 s n).1, (0 : Int)) = (s, (padS0 s n).1, ((0 : Nat) : Int)) from rfl, h5, Option.bind_some]
    by_cases hj : j < s.length
    · rw [if_pos hj, if_pos]
      exact List.any_eq_true.2 ⟨s[j], List.getElem_mem _, by rw [← getD_lt (d := 0) hj]; exact h4 hj⟩
    · rw [if_neg hj, if_neg]
      · simp only
        rw [show (padS0 s n) = ((padS0 s n).1, (padS0 s n).2) from rfl, show (padS0 s n).2 = 0 by simpa using he]
      · intro ha
        obtain ⟨x, hx, hp⟩ := List.any_eq_true.1 ha
        obtain ⟨i, hi, rfl⟩ := List.getElem_of_mem hx
        have := h3 i (by omega) (by omega)
        rw [getD_lt hi] at this
        rw [this] at hp; cases hp

theorem refUntext_is (s : List UInt8) (hs : s.length ≤ 4611686018427387904) : wainwrightref01_Untext s = some (untextS s) := by
  unfold wainwrightref01_Untext untextS
  obtain ⟨j, _, h2, h3, h4, h5⟩ := loop_first (f := wainwrightref01_Untext.l1) (fun i => (s, (i : Int))) (fun i => s.getD i 0 == 0) (r := fun i => (s, (i : Int))) (n := s.length) s.length 0 (by omega)
    (fun i _ hi => by
      unfold wainwrightref01_Untext.l1
      simp only
      rw [if_pos (by simpa using hi), if_pos (by omega), getD_nat, bne0, wrap_succ (by omega)]
      cases (s.getD i 0 == 0) <;> rfl)
    (by unfold wainwrightref01_Untext.l1; simp)
  rw [show (s, (0 : Int)) = (s, ((0 : Nat) : Int)) from rfl, h5, Option.bind_some]
  have ej : s.findIdx (· == 0) = j := by
    rcases Nat.lt_trichotomy (s.findIdx (· == 0)) j with h | h | h
    · have a := h3 _ (by omega) h
      have hl : s.findIdx (· == 0) < s.length := by omega
      rw [getD_lt hl] at a
      have b : (s[s.findIdx (· == 0)] == 0) = true := List.findIdx_getElem (p := (· == (0 : UInt8)))
      rw [a] at b; cases b
    · exact h
    · have hl : j < s.length := Nat.lt_of_lt_of_le h List.findIdx_le_length
      have a := h4 hl
      have b := List.not_of_lt_findIdx h
      rw [getD_lt hl] at a
      rw [a] at b; cases b
  rw [ej]
  simp only
  obtain ⟨q, q1, q2, q3, q4, q5⟩ := loop_first (f := wainwrightref01_Untext.l2) (fun i => (s, (j : Int), (i : Int))) (fun i => !(s.getD i 0 == 0)) (r := fun i => if i < s.length then .inr ([], 15) else .inl (s, (j : Int))) (n := s.length) (s.length - j) j (by omega)
    (fun i _ hi => by
      unfold wainwrightref01_Untext.l2
      simp only
      rw [if_pos (by simpa using hi), if_pos (by omega), getD_nat, bne0, wrap_succ (by omega), if_pos hi])
    (by unfold wainwrightref01_Untext.l2; simp)
  rw [q5, Option.bind_some]
  by_cases hq : q < s.length
  · rw [if_pos hq, if_neg]
    intro ha
    have := List.all_eq_true.1 ha (s[q]) (by
      rw [List.mem_drop_iff_getElem]
      exact ⟨q - j, by omega, by congr 1; omega⟩)
    have b := q4 hq
    rw [getD_lt hq, this] at b
    cases b
  · rw [if_neg hq, if_pos]
    · simp only
      rw [if_pos (by omega), Int.toNat_natCast]
    · rw [List.all_eq_true]
      intro x hx
      obtain ⟨i, hi, rfl⟩ := List.mem_drop_iff_getElem.1 hx
      have := q3 (j + i) (by omega) (by omega)
      rw [getD_lt (by omega)] at this
      simpa using this

/-- There and back. -/
theorem untext_text (s : List UInt8) (n : Int) (h : (textS s n).2 = 0) : untextS (textS s n).1 = (s, 0) := by
  unfold textS at h ⊢
  split at h
  · rename_i hp; exact absurd h hp
  · rename_i hp
    split at h
    · cases h
    · rename_i ha
      rw [if_neg hp, if_neg ha]
      unfold padS0 at hp ⊢
      split at hp
      · exact absurd (by decide) hp
      · split at hp
        · exact absurd (by decide) hp
        · rename_i h1 h2
          rw [if_neg h1, if_neg h2]
          simp only
          have hno : s.findIdx (· == 0) = s.length := by
            have := any_findIdx s
            rw [show s.any (· == 0) = false from Bool.eq_false_iff.2 ha] at this
            have h3 : ¬ s.findIdx (· == 0) < s.length := by simpa using this.symm
            have := List.findIdx_le_length (p := (· == (0 : UInt8))) (xs := s)
            omega
          have e : (s ++ List.replicate (n.toNat - s.length) 0).findIdx (· == 0) = s.length := by
            rw [List.findIdx_append, if_neg (by omega)]
            cases n.toNat - s.length with
            | zero => simp
            | succ k => simp [List.replicate_succ, List.findIdx_cons]
          unfold untextS
          rw [e, List.take_append_of_le_length (Nat.le_refl _), List.take_length, List.drop_append_of_le_length (Nat.le_refl _), List.drop_length, List.nil_append, if_pos]
          rw [List.all_eq_true]
          intro x hx
          rw [List.eq_of_mem_replicate hx]; rfl
end Go.Proofs.YtldmeogadmgkiaaDoor.Abs
