/- Rows of free bits: the first one that is as long as is asked; the longest one. -/
import Derived.Test.YtiodpeekbeahlaaGreatDoorStpM
namespace Go.Proofs.YtiodpeekbeahlaaGreatDoor.Abs
open Go
set_option linter.unusedVariables false
attribute [-simp] List.getD_eq_getElem?_getD

def freeB (m : Blk) (i c : Nat) : Bool := (List.range c).all fun k => !isM m ((i + k : Nat) : Int)

theorem free_iff (m : Blk) (i c : Nat) : freeB m i c = true ↔ ∀ q, i ≤ q → q < i + c → isM m (q : Int) = false := by
  unfold freeB
  rw [List.all_eq_true]
  constructor
  · intro h q h1 h2
    have := h (q - i) (List.mem_range.2 (by omega))
    rw [show i + (q - i) = q by omega] at this
    simpa using this
  · intro h k hk
    have hk := List.mem_range.1 hk
    rw [h (i + k) (by omega) (by omega)]
    rfl

def isRun (m : Blk) (s B c i : Nat) : Bool := decide (s ≤ i ∧ i + c ≤ B) && freeB m i c
def runS (m : Blk) (s B c : Nat) : Option Nat := (List.range B).find? (isRun m s B c)

theorem isRun_iff (m : Blk) (s B c i : Nat) : isRun m s B c i = true ↔ s ≤ i ∧ i + c ≤ B ∧ ∀ q, i ≤ q → q < i + c → isM m (q : Int) = false := by
  unfold isRun
  rw [Bool.and_eq_true, decide_eq_true_eq, free_iff]
  exact ⟨fun h => ⟨h.1.1, h.1.2, h.2⟩, fun h => ⟨⟨h.1, h.2.1⟩, h.2.2⟩⟩

theorem find_range (p : Nat → Bool) : ∀ n, (∃ i, (List.range n).find? p = some i ∧ i < n ∧ p i = true ∧ ∀ j, j < i → p j = false) ∨ ((List.range n).find? p = none ∧ ∀ j, j < n → p j = false)
  | 0 => .inr ⟨rfl, fun j hj => by omega⟩
  | n + 1 => by
    rw [List.range_succ, List.find?_append]
    rcases find_range p n with ⟨i, h1, h2, h3, h4⟩ | ⟨h1, h2⟩
    · exact .inl ⟨i, by rw [h1]; rfl, by omega, h3, h4⟩
    · rw [h1]
      cases hp : p n with
      | true => exact .inl ⟨n, by simp [hp], by omega, hp, h2⟩
      | false =>
        refine .inr ⟨by simp [hp], fun j hj => ?_⟩
        by_cases e : j = n
        · rw [e]; exact hp
        · exact h2 j (by omega)

theorem runS_some {m : Blk} {s B c i : Nat} (hB : i < B) (h : isRun m s B c i = true) (hm : ∀ j, j < i → isRun m s B c j = false) : runS m s B c = some i := by
  rcases find_range (isRun m s B c) B with ⟨k, h1, h2, h3, h4⟩ | ⟨h1, h2⟩
  · have : k = i := by
      rcases Nat.lt_trichotomy k i with q | q | q
      · rw [hm k q] at h3; cases h3
      · exact q
      · rw [h4 i q] at h; cases h
    rw [← this]; exact h1
  · rw [h2 i hB] at h; cases h
theorem runS_none {m : Blk} {s B c : Nat} (h : ∀ j, j < B → isRun m s B c j = false) : runS m s B c = none := by
  rcases find_range (isRun m s B c) B with ⟨k, h1, h2, h3, h4⟩ | ⟨h1, h2⟩
  · rw [h k h2] at h3; cases h3
  · exact h1
theorem runS_spec (m : Blk) (s B c : Nat) : (∃ i, runS m s B c = some i ∧ i < B ∧ isRun m s B c i = true ∧ ∀ j, j < i → isRun m s B c j = false) ∨ (runS m s B c = none ∧ ∀ j, j < B → isRun m s B c j = false) := find_range _ B

/-! ### The program's -/

theorem Run_run (m : Blk) (n : Nat) (c : Int) (hl : m.length = 128) (hn : n ≤ 400) (hc : 1 ≤ c) (hc2 : c < 9223372036854775808) :
    marks_Run (m, 51, (n : Int), c) = some (match runS m 51 n c.toNat with | some i => ((i : Int), true) | none => (0, false)) := by
  have hb : bound m (n : Int) = (n : Int) := by unfold bound; rw [hl]; rw [if_neg (by omega)]
  have hs : start 51 = 51 := by decide
  rcases Run_is m 51 n c (by omega) hc (by omega) hc2 (by omega) with ⟨k, h1, h2, h3, h4⟩ | ⟨h1, h2⟩
  · rw [hs] at h1 h2 h3 h4
    rw [hb] at h1
    have hr := rowAt_le m 51 (k + 1)
    have e : runS m 51 n c.toNat = some (51 + k + 1 - c.toNat) := by
      refine runS_some (by omega) ((isRun_iff ..).2 ⟨by omega, by omega, fun q q1 q2 => ?_⟩) (fun j hj => ?_)
      · have := rowAt_free m 51 (k + 1) (q - 51) (by omega) (by omega)
        rwa [show 51 + (q - 51) = q by omega] at this
      · cases hx : isRun m 51 n c.toNat j with
        | false => rfl
        | true =>
          obtain ⟨j1, j2, j3⟩ := (isRun_iff ..).1 hx
          have ge := rowAt_ge m 51 (j - 51) c.toNat fun q q1 q2 => j3 (51 + q) (by omega) (by omega)
          have lt := rowAt_lt m 51 c.toNat (by omega) (j - 51 + c.toNat) fun q hq hcc => h3 q (by omega) (by rw [hcc]; omega)
          omega
    rw [h4, e]
    simp only [Option.some.injEq, Prod.mk.injEq, and_true]
    omega
  · rw [hs] at h1
    rw [hb] at h1
    have e : runS m 51 n c.toNat = none := by
      refine runS_none fun j hj => ?_
      cases hx : isRun m 51 n c.toNat j with
      | false => rfl
      | true =>
        obtain ⟨j1, j2, j3⟩ := (isRun_iff ..).1 hx
        have ge := rowAt_ge m 51 (j - 51) c.toNat fun q q1 q2 => j3 (51 + q) (by omega) (by omega)
        have lt := rowAt_lt m 51 c.toNat (by omega) (j - 51 + c.toNat) fun q hq hcc => h1 q (by omega) (by rw [hcc]; omega)
        omega
    rw [h2, e]

/-- The longest row, and where it begins. -/
theorem Longest_run (m : Blk) (n : Nat) (hl : m.length = 128) (hn : n ≤ 400) : ∃ a b : Nat, marks_Longest (m, (n : Int)) = some ((a : Int), (b : Int)) ∧ (b = 0 → a = 0) ∧ (0 < b → runS m 0 n b = some a) ∧ ∀ c, b < c → runS m 0 n c = none := by
  have key : ∀ (d k a b : Nat), k + d = n → (b = 0 → a = 0) → (0 < b → a + b ≤ k ∧ rowAt m 0 (a + b) = b ∧ ∀ e, e < a + b → rowAt m 0 e < b) → (∀ e, e ≤ k → rowAt m 0 e ≤ b) →
      ∃ a' b' : Nat, loopO marks_Longest.l1 (m, (a : Int), (b : Int), ((rowAt m 0 k : Nat) : Int), (n : Int), (k : Int)) = some ((a' : Int), (b' : Int)) ∧ (b' = 0 → a' = 0) ∧ (0 < b' → a' + b' ≤ n ∧ rowAt m 0 (a' + b') = b' ∧ ∀ e, e < a' + b' → rowAt m 0 e < b') ∧ (∀ e, e ≤ n → rowAt m 0 e ≤ b') := by
    intro d
    induction d with
    | zero =>
      intro k a b hk h1 h2 h3
      have : k = n := by omega
      subst this
      refine ⟨a, b, loopO_inr ?_, h1, h2, h3⟩
      unfold marks_Longest.l1
      simp only
      rw [if_neg (by simp)]
    | succ d ih =>
      intro k a b hk h1 h2 h3
      have hr := rowAt_le m 0 k
      have hr1 := rowAt_le m 0 (k + 1)
      have hstep : marks_Longest.l1 (m, (a : Int), (b : Int), ((rowAt m 0 k : Nat) : Int), (n : Int), (k : Int)) = some (.inl (m, (((if rowAt m 0 (k + 1) > b then k + 1 - rowAt m 0 (k + 1) else a : Nat)) : Int), (((if rowAt m 0 (k + 1) > b then rowAt m 0 (k + 1) else b : Nat)) : Int), ((rowAt m 0 (k + 1) : Nat) : Int), (n : Int), ((k + 1 : Nat) : Int))) := by
        unfold marks_Longest.l1
        simp only
        rw [if_pos (by rw [decide_eq_true_eq]; omega), Is_is _ _ (by omega), Option.bind_some]
        have hrow : ((if isM m (k : Int) = true then some (m, (a : Int), (b : Int), (0 : Int), (k : Int), (n : Int), (k : Int)) else some (m, (a : Int), (b : Int), IntKind.i64.wrap (((rowAt m 0 k : Nat) : Int) + 1), (k : Int), (n : Int), (k : Int))) : Option (Blk × Int × Int × Int × Int × Int × Int)) = some (m, (a : Int), (b : Int), ((rowAt m 0 (k + 1) : Nat) : Int), (k : Int), (n : Int), (k : Int)) := by
          simp only [rowAt, Nat.zero_add]
          split
          · rfl
          · rw [wrap_succ (by omega)]
        rw [hrow, Option.bind_some]
        simp only
        rw [wrap_succ (n := k) (by omega)]
        by_cases hb : rowAt m 0 (k + 1) > b
        · rw [if_pos (by rw [decide_eq_true_eq]; omega), if_pos hb, if_pos hb, wrap64 (n := ((k + 1 : Nat) : Int) - ((rowAt m 0 (k + 1) : Nat) : Int)) (by omega) (by omega), show ((k + 1 : Nat) : Int) - ((rowAt m 0 (k + 1) : Nat) : Int) = ((k + 1 - rowAt m 0 (k + 1) : Nat) : Int) by omega]
        · rw [if_neg (by rw [decide_eq_true_eq]; omega), if_neg hb, if_neg hb]
      rw [loopO_inl hstep]
      refine ih (k + 1) _ _ (by omega) (fun h => ?_) (fun h => ?_) (fun e he => ?_)
      · by_cases hb : rowAt m 0 (k + 1) > b
        · rw [if_pos hb] at h; omega
        · rw [if_neg hb] at h ⊢; exact h1 h
      · by_cases hb : rowAt m 0 (k + 1) > b
        · rw [if_pos hb, if_pos hb, show k + 1 - rowAt m 0 (k + 1) + rowAt m 0 (k + 1) = k + 1 by omega]
          exact ⟨Nat.le_refl _, rfl, fun e he => by have := h3 e (by omega); omega⟩
        · rw [if_neg hb] at h ⊢
          rw [if_neg hb]
          have := h2 h
          exact ⟨by omega, this.2⟩
      · by_cases hb : rowAt m 0 (k + 1) > b
        · rw [if_pos hb]
          by_cases e1 : e = k + 1
          · rw [e1]; exact Nat.le_refl _
          · have := h3 e (by omega); omega
        · rw [if_neg hb]
          by_cases e1 : e = k + 1
          · rw [e1]; omega
          · exact h3 e (by omega)
  obtain ⟨a, b, h0, h1, h2, h3⟩ := key n 0 0 0 (by omega) (fun _ => rfl) (fun h => by omega) (fun e he => by
    have : e = 0 := by omega
    subst this
    exact Nat.le_refl _)
  refine ⟨a, b, ?_, h1, fun hb => ?_, fun c hc => ?_⟩
  · unfold marks_Longest
    simp only
    rw [hl, show IntKind.i64.wrap (8 * ((128 : Nat) : Int)) = 1024 by decide, if_neg (show ¬ (0 : Int) > (n : Int) by omega), if_neg (show ¬ (1024 : Int) < (n : Int) by omega)]
    have e0 : (m, (0 : Int), (0 : Int), (0 : Int), (n : Int), (0 : Int)) = (m, ((0 : Nat) : Int), ((0 : Nat) : Int), ((rowAt m 0 0 : Nat) : Int), (n : Int), ((0 : Nat) : Int)) := rfl
    rw [e0, h0]
    rfl
  · obtain ⟨q1, q2, q3⟩ := h2 hb
    refine runS_some (by omega) ((isRun_iff ..).2 ⟨by omega, q1, fun q r1 r2 => ?_⟩) (fun j hj => ?_)
    · have := rowAt_free m 0 (a + b) q (by omega) r2
      rwa [Nat.zero_add] at this
    · cases hx : isRun m 0 n b j with
      | false => rfl
      | true =>
        obtain ⟨j1, j2, j3⟩ := (isRun_iff ..).1 hx
        have ge := rowAt_ge m 0 j b fun q r1 r2 => by rw [Nat.zero_add]; exact j3 q r1 r2
        have := q3 (j + b) (by omega)
        omega
  · refine runS_none fun j hj => ?_
    cases hx : isRun m 0 n c j with
    | false => rfl
    | true =>
      obtain ⟨j1, j2, j3⟩ := (isRun_iff ..).1 hx
      have ge := rowAt_ge m 0 j c fun q r1 r2 => by rw [Nat.zero_add]; exact j3 q r1 r2
      have := h3 (j + c) (by omega)
      omega

/-! ### The first blocks are no files' -/

def lowM (m : Blk) : Blk := taken m 0 51
theorem low_len (m : Blk) : (lowM m).length = m.length := taken_len m 0 51
theorem low_is (m : Blk) (hl : m.length = 128) (q : Int) : isM (lowM m) q = if 0 ≤ q ∧ q < 51 then true else isM m q := by
  have := taken_is m 0 51 (by omega) q
  unfold lowM
  rw [this]
  rfl
theorem stockLow_is (m : Blk) (hl : m.length = 128) : stock_low m = some (lowM m) := by
  have := loop_run (f := stock_low.l1) (fun i => (taken m 0 i, (i : Int))) (n := 51) (r := lowM m) (fun i hi => by
    unfold stock_low.l1
    simp only
    rw [if_pos (by rw [decide_eq_true_eq]; omega), Set_is _ _ _ (by rw [taken_len]; omega), Option.bind_some, wrap_succ (by omega), taken, Nat.zero_add]) (by
    unfold stock_low.l1
    simp only
    rw [if_neg (by decide)]
    rfl)
  unfold stock_low
  rw [show (m, (0 : Int)) = (taken m 0 0, ((0 : Nat) : Int)) from rfl, this]
  rfl
theorem low_run (m : Blk) (hl : m.length = 128) (n c : Nat) (hc : 1 ≤ c) : runS (lowM m) 0 n c = runS m 51 n c := by
  have : isRun (lowM m) 0 n c = isRun m 51 n c := by
    funext i
    rw [Bool.eq_iff_iff, isRun_iff, isRun_iff]
    constructor
    · rintro ⟨h1, h2, h3⟩
      have hi : 51 ≤ i := by
        have := h3 i (Nat.le_refl _) (by omega)
        rw [low_is m hl] at this
        by_cases q : i < 51
        · rw [if_pos (by omega)] at this; cases this
        · omega
      refine ⟨hi, h2, fun q q1 q2 => ?_⟩
      have := h3 q q1 q2
      rw [low_is m hl, if_neg (by omega)] at this
      exact this
    · rintro ⟨h1, h2, h3⟩
      refine ⟨by omega, h2, fun q q1 q2 => ?_⟩
      rw [low_is m hl, if_neg (by omega)]
      exact h3 q q1 q2
  unfold runS
  rw [this]

theorem run_down {m : Blk} {s B c d : Nat} (hd : 1 ≤ d) (h : d ≤ c) (hc : runS m s B c ≠ none) : runS m s B d ≠ none := by
  rcases runS_spec m s B c with ⟨i, h1, h2, h3, h4⟩ | ⟨h1, h2⟩
  · obtain ⟨j1, j2, j3⟩ := (isRun_iff ..).1 h3
    rcases runS_spec m s B d with ⟨k, k1, _⟩ | ⟨k1, k2⟩
    · rw [k1]; simp
    · have := k2 i (by omega)
      rw [(isRun_iff ..).2 ⟨j1, by omega, fun q q1 q2 => j3 q q1 (by omega)⟩] at this
      cases this
  · exact absurd h1 hc

/-- How long the longest row is. -/
structure IsBest (m : Blk) (n b : Nat) : Prop where
  some : 0 < b → runS m 51 n b ≠ none
  none : ∀ c, b < c → runS m 51 n c = none
theorem IsBest.le {m : Blk} {n b : Nat} (h : IsBest m n b) : b ≤ n := by
  by_cases hb : 0 < b
  · rcases runS_spec m 51 n b with ⟨i, h1, h2, h3, h4⟩ | ⟨h1, h2⟩
    · obtain ⟨j1, j2, j3⟩ := (isRun_iff ..).1 h3
      omega
    · exact absurd h1 (h.some hb)
  · omega

def atS (m : Blk) (n k : Nat) : Nat := if k = 0 then 0 else (runS m 51 n k).getD 0

/-- A row: where, and how long. -/
def rowS (m : Blk) (n : Nat) (b : Nat) (c : Int) : Nat × Nat := match runS m 51 n c.toNat with | some i => (i, c.toNat) | none => (atS m n b, b)

theorem best_of (m : Blk) (n : Nat) (hl : m.length = 128) (hn : n ≤ 400) : ∃ b, IsBest m n b ∧ marks_Longest (lowM m, (n : Int)) = some ((atS m n b : Int), (b : Int)) := by
  obtain ⟨a, b, h0, h1, h2, h3⟩ := Longest_run (lowM m) n (by rw [low_len, hl]) hn
  refine ⟨b, ⟨fun hb => ?_, fun c hc => ?_⟩, ?_⟩
  · rw [← low_run m hl n b hb, h2 hb]; simp
  · rw [← low_run m hl n c (by omega)]; exact h3 c hc
  · rw [h0]
    congr 2
    unfold atS
    by_cases hb : b = 0
    · rw [if_pos hb, h1 hb]
    · rw [if_neg hb, ← low_run m hl n b (by omega), h2 (by omega)]
      rfl

theorem rowS_spec {m : Blk} {n b : Nat} (hb : IsBest m n b) {c : Int} (hc : 1 ≤ c) : (rowS m n b c).2 ≤ b ∧ (0 < (rowS m n b c).2 → 51 ≤ (rowS m n b c).1 ∧ (rowS m n b c).1 + (rowS m n b c).2 ≤ n ∧ ∀ q : Nat, (rowS m n b c).1 ≤ q → q < (rowS m n b c).1 + (rowS m n b c).2 → isM m (q : Int) = false) := by
  unfold rowS
  rcases runS_spec m 51 n c.toNat with ⟨i, h1, h2, h3, h4⟩ | ⟨h1, h2⟩
  · rw [h1]
    simp only
    obtain ⟨j1, j2, j3⟩ := (isRun_iff ..).1 h3
    refine ⟨?_, fun _ => ⟨j1, j2, j3⟩⟩
    apply Decidable.byContradiction
    intro q
    rw [hb.none c.toNat (by omega)] at h1
    cases h1
  · rw [h1]
    simp only
    refine ⟨Nat.le_refl _, fun hpos => ?_⟩
    rcases runS_spec m 51 n b with ⟨i, k1, k2, k3, k4⟩ | ⟨k1, k2⟩
    · obtain ⟨j1, j2, j3⟩ := (isRun_iff ..).1 k3
      have : atS m n b = i := by unfold atS; rw [if_neg (by omega), k1]; rfl
      rw [this]
      exact ⟨j1, j2, j3⟩
    · exact absurd k1 (hb.some hpos)

theorem row_is (m : Blk) (n b : Nat) (c : Int) (hl : m.length = 128) (hn : n ≤ 400) (hb : IsBest m n b) (hc : 1 ≤ c) (hc2 : c < 9223372036854775808) (s0 : (List Blk × Loo × Int × Int) × Bool × Int) (es : Loo) :
    stock_store_row_1 (((s0, es), 1, (n : Int), 0, m), c) = some (((rowS m n b c).1 : Int), ((rowS m n b c).2 : Int)) := by
  unfold stock_store_row_1 rowS
  simp only
  rw [Run_run m n c hl hn hc hc2, Option.bind_some]
  cases hr : runS m 51 n c.toNat with
  | some i =>
    simp only
    rw [if_pos trivial, show ((c.toNat : Nat) : Int) = c by omega]
  | none =>
    simp only
    rw [if_neg (by simp), stockLow_is m hl, Option.bind_some]
    obtain ⟨b', h1, h2⟩ := best_of m n hl hn
    have : b' = b := by
      rcases Nat.lt_trichotomy b' b with q | q | q
      · exact absurd (h1.none b q) (hb.some (by omega))
      · exact q
      · exact absurd (hb.none b' q) (h1.some (by omega))
    rw [h2, this]
    rfl
end Go.Proofs.YtiodpeekbeahlaaGreatDoor.Abs
