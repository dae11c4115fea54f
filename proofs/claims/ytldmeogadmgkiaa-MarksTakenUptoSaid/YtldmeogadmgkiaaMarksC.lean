/- Marks: runs of free bits, and the law of what is taken. -/
import Derived.Test.YtldmeogadmgkiaaMarksB
namespace Go.Proofs.Ytldmeogadmgkiaa.Abs
open Go
set_option linter.unusedVariables false
attribute [-simp] List.getD_eq_getElem?_getD

def rowAt (m : List UInt8) (s : Nat) : Nat → Nat
  | 0 => 0
  | k + 1 => if isM m ((s + k : Nat) : Int) = true then 0 else rowAt m s k + 1

theorem rowAt_le (m : List UInt8) (s : Nat) : ∀ k, rowAt m s k ≤ k
  | 0 => Nat.le_refl _
  | k + 1 => by
    have := rowAt_le m s k
    simp only [rowAt]; split <;> omega

/-- The last so many are free. -/
theorem rowAt_free (m : List UInt8) (s : Nat) : ∀ k q, k - rowAt m s k ≤ q → q < k → isM m ((s + q : Nat) : Int) = false
  | 0, q, _, h => by omega
  | k + 1, q, h1, h2 => by
    simp only [rowAt] at h1
    have hr := rowAt_le m s k
    split at h1
    · omega
    · rename_i hc
      by_cases hq : q = k
      · subst hq; simpa using hc
      · exact rowAt_free m s k q (by omega) (by omega)

/-- Where so many are free, the row is as long. -/
theorem rowAt_ge (m : List UInt8) (s p : Nat) : ∀ d, (∀ q, p ≤ q → q < p + d → isM m ((s + q : Nat) : Int) = false) → d ≤ rowAt m s (p + d)
  | 0, _ => Nat.zero_le _
  | d + 1, h => by
    have ih := rowAt_ge m s p d fun q h1 h2 => h q h1 (by omega)
    have h0 := h (p + d) (by omega) (by omega)
    rw [← Nat.add_assoc, rowAt, h0]
    simp; omega

/-- A row that was never c is shorter than c. -/
theorem rowAt_lt (m : List UInt8) (s c : Nat) (hc : 0 < c) : ∀ k, (∀ j, j < k → rowAt m s (j + 1) ≠ c) → rowAt m s k < c
  | 0, _ => hc
  | k + 1, h => by
    have ih := rowAt_lt m s c hc k fun j hj => h j (by omega)
    have h0 := h k (by omega)
    simp only [rowAt] at h0 ⊢
    split
    · exact hc
    · rename_i hx
      rw [if_neg hx] at h0
      omega

def bound (m : List UInt8) (n : Int) : Int := if 8 * (m.length : Int) < n then 8 * (m.length : Int) else n
def start (a : Int) : Nat := (if 0 > a then 0 else a).toNat

theorem Run_is (m : List UInt8) (a b c : Int) (h : m.length ≤ 1048576) (hc : 1 ≤ c) (ha : a < 9223372036854775808) (hcb : c < 9223372036854775808) (hb : -9223372036854775808 ≤ b) :
    (∃ k : Nat, ((start a + k : Nat) : Int) < bound m b ∧ (rowAt m (start a) (k + 1) : Int) = c ∧ (∀ j, j < k → (rowAt m (start a) (j + 1) : Int) ≠ c) ∧ marks_Run (m, a, b, c) = some (((start a + k + 1 : Nat) : Int) - c, true)) ∨
    ((∀ k : Nat, ((start a + k : Nat) : Int) < bound m b → (rowAt m (start a) (k + 1) : Int) ≠ c) ∧ marks_Run (m, a, b, c) = some (0, false)) := by
  have hs : (if 0 > a then 0 else a) = ((start a : Nat) : Int) := by unfold start; split <;> omega
  have hB : bound m b ≤ 8388608 := by unfold bound; split <;> omega
  obtain ⟨j, _, hj, hbefore, hstop, hrun⟩ := loop_first (f := marks_Run.l1) (fun k => (m, bound m b, c, ((rowAt m (start a) k : Nat) : Int), ((start a + k : Nat) : Int))) (fun k => decide ((rowAt m (start a) (k + 1) : Int) = c)) (n := (bound m b - (start a : Int)).toNat)
    (r := fun k => if k < (bound m b - (start a : Int)).toNat then .inr (((start a + k + 1 : Nat) : Int) - c, true) else .inl ()) (bound m b - (start a : Int)).toNat 0 (by omega) (fun k _ hk => by
      have hr := rowAt_le m (start a) k
      unfold marks_Run.l1
      dsimp only
      rw [if_pos (by simp; omega), Is_is _ _ h]
      have key : ((((some (isM m ((start a + k : Nat) : Int))).bind fun r30 => if r30 = true then some (m, bound m b, c, (0 : Int), ((start a + k : Nat) : Int)) else some (m, bound m b, c, IntKind.i64.wrap (((rowAt m (start a) k : Nat) : Int) + 1), ((start a + k : Nat) : Int))) : Option (List UInt8 × Int × Int × Int × Int))
          = some (m, bound m b, c, ((rowAt m (start a) (k + 1) : Nat) : Int), ((start a + k : Nat) : Int))) := by
        simp only [Option.bind_some, rowAt]
        split
        · rfl
        · rw [wrap_succ (by omega)]
      rw [key]
      simp only [Option.bind_some, hk, if_true]
      rw [wrap_succ (show start a + k < 9223372036854775807 by omega)]
      by_cases hcc : (rowAt m (start a) (k + 1) : Int) = c
      · rw [if_pos (by simpa using hcc), if_pos (by simpa using hcc), wrap64 (n := ((start a + k + 1 : Nat) : Int) - c) (by omega) (by omega)]
      · rw [if_neg (by simpa using hcc), if_neg (by simpa using hcc)]
        rfl) (by
      unfold marks_Run.l1
      dsimp only
      rw [if_neg (by simp; omega), if_neg (by omega)])
  have hrun' : marks_Run (m, a, b, c) = (some (if j < (bound m b - (start a : Int)).toNat then Sum.inr (((start a + j + 1 : Nat) : Int) - c, true) else Sum.inl ()) : Option (Unit ⊕ (Int × Bool))).bind fun d => match d with | .inl _ => some (0, false) | .inr (t8, t9) => some (t8, t9) := by
    unfold marks_Run
    dsimp only
    rw [if_neg (by simp; omega), wrap64 (n := 8 * (m.length : Int)) (by omega) (by omega), hs]
    rw [show (if 8 * (m.length : Int) < b then 8 * (m.length : Int) else b) = bound m b from rfl]
    rw [show (m, bound m b, c, (0 : Int), ((start a : Nat) : Int)) = (m, bound m b, c, ((rowAt m (start a) 0 : Nat) : Int), ((start a + 0 : Nat) : Int)) from rfl, hrun]
    rfl
  rw [hrun']
  rcases Nat.lt_or_ge j (bound m b - (start a : Int)).toNat with hlt | hge
  · refine .inl ⟨j, by omega, by simpa using hstop hlt, fun q hq => by simpa using hbefore q (by omega) hq, ?_⟩
    rw [if_pos hlt]; rfl
  · refine .inr ⟨fun k hk => by simpa using hbefore k (by omega) (by omega), ?_⟩
    rw [if_neg (by omega)]; rfl

def best (m : List UInt8) : Nat → Nat
  | 0 => 0
  | k + 1 => if rowAt m 0 (k + 1) > best m k then rowAt m 0 (k + 1) else best m k

theorem best_le (m : List UInt8) : ∀ k, best m k ≤ k
  | 0 => Nat.le_refl _
  | k + 1 => by
    have := best_le m k
    have := rowAt_le m 0 (k + 1)
    simp only [best]; split <;> omega

theorem best_lt (m : List UInt8) (c : Nat) (hc : 0 < c) : ∀ k, (∀ j, j < k → rowAt m 0 (j + 1) ≠ c) → best m k < c
  | 0, _ => hc
  | k + 1, h => by
    have ih := best_lt m c hc k fun j hj => h j (by omega)
    have := rowAt_lt m 0 c hc (k + 1) h
    simp only [best]; split <;> omega

theorem Longest_is (m : List UInt8) (b : Int) (h : m.length ≤ 1048576) : ∃ x, marks_Longest (m, b) = some (x, ((best m (bound m (if 0 > b then 0 else b)).toNat : Nat) : Int)) := by
  have hB : 0 ≤ bound m (if 0 > b then 0 else b) ∧ bound m (if 0 > b then 0 else b) ≤ 8388608 := by unfold bound; split <;> split <;> omega
  obtain ⟨N, hN⟩ : ∃ N : Nat, bound m (if 0 > b then 0 else b) = (N : Int) := ⟨(bound m (if 0 > b then 0 else b)).toNat, by omega⟩
  have key : ∀ (d k : Nat) (x : Int), k + d = N → ∃ y, loopO marks_Longest.l1 (m, x, ((best m k : Nat) : Int), ((rowAt m 0 k : Nat) : Int), (N : Int), (k : Int)) = some (y, ((best m N : Nat) : Int)) := by
    intro d
    induction d with
    | zero =>
      intro k x hk
      have : k = N := by omega
      subst this
      refine ⟨x, loopO_inr ?_⟩
      unfold marks_Longest.l1
      dsimp only
      rw [if_neg (by simp)]
    | succ d ih =>
      intro k x hk
      have hr := rowAt_le m 0 k
      have hr1 := rowAt_le m 0 (k + 1)
      have hstep : ∃ x', marks_Longest.l1 (m, x, ((best m k : Nat) : Int), ((rowAt m 0 k : Nat) : Int), (N : Int), (k : Int)) = some (.inl (m, x', ((best m (k + 1) : Nat) : Int), ((rowAt m 0 (k + 1) : Nat) : Int), (N : Int), ((k + 1 : Nat) : Int))) := by
        unfold marks_Longest.l1
        dsimp only
        rw [if_pos (by simp; omega), Is_is _ _ h]
        have key : ((((some (isM m (k : Int))).bind fun r23 => if r23 = true then some (m, x, ((best m k : Nat) : Int), (0 : Int), (k : Int), (N : Int), (k : Int)) else some (m, x, ((best m k : Nat) : Int), IntKind.i64.wrap (((rowAt m 0 k : Nat) : Int) + 1), (k : Int), (N : Int), (k : Int))) : Option (List UInt8 × Int × Int × Int × Int × Int × Int))
            = some (m, x, ((best m k : Nat) : Int), ((rowAt m 0 (k + 1) : Nat) : Int), (k : Int), (N : Int), (k : Int))) := by
          simp only [Option.bind_some, rowAt, Nat.zero_add]
          split
          · rfl
          · rw [wrap_succ (by omega)]
        rw [key]
        simp only [Option.bind_some]
        rw [wrap_succ (show k < 9223372036854775807 by omega)]
        by_cases hb : rowAt m 0 (k + 1) > best m k
        · rw [if_pos (by simp; omega), best, if_pos hb]
          exact ⟨_, rfl⟩
        · rw [if_neg (by simp; omega), best, if_neg hb]
          exact ⟨_, rfl⟩
      obtain ⟨x', hx'⟩ := hstep
      obtain ⟨y, hy⟩ := ih (k + 1) x' (by omega)
      exact ⟨y, by rw [loopO_inl hx']; exact hy⟩
  obtain ⟨y, hy⟩ := key N 0 0 (by omega)
  refine ⟨y, ?_⟩
  unfold marks_Longest
  dsimp only
  rw [wrap64 (n := 8 * (m.length : Int)) (by omega) (by omega), show (if 8 * (m.length : Int) < (if 0 > b then 0 else b) then 8 * (m.length : Int) else (if 0 > b then 0 else b)) = bound m (if 0 > b then 0 else b) from rfl, hN]
  rw [show (m, (0 : Int), (0 : Int), (0 : Int), (N : Int), (0 : Int)) = (m, (0 : Int), ((best m 0 : Nat) : Int), ((rowAt m 0 0 : Nat) : Int), (N : Int), ((0 : Nat) : Int)) from rfl, hy, Int.toNat_natCast]
  rfl

/-! ### What is taken -/

def taken (m : List UInt8) (i : Nat) : Nat → List UInt8
  | 0 => m
  | k + 1 => setM (taken m i k) ((i + k : Nat) : Int) true

theorem taken_len (m : List UInt8) (i : Nat) : ∀ k, (taken m i k).length = m.length
  | 0 => rfl
  | k + 1 => by rw [taken, setM_len, taken_len m i k]

theorem taken_is (m : List UInt8) (i : Nat) : ∀ k, i + k ≤ 8 * m.length → ∀ q : Int, isM (taken m i k) q = if (i : Int) ≤ q ∧ q < ((i + k : Nat) : Int) then true else isM m q
  | 0, _, q => by rw [if_neg (by omega)]; rfl
  | k + 1, h, q => by
    have hl := taken_len m i k
    rw [taken, isM_set _ _ _ _ (by rw [hl]; omega), taken_is m i k (by omega) q]
    by_cases hq : q = ((i + k : Nat) : Int)
    · rw [if_pos hq, if_pos (by omega)]
    · rw [if_neg hq]
      by_cases hc : (i : Int) ≤ q ∧ q < ((i + k : Nat) : Int)
      · rw [if_pos hc, if_pos (by omega)]
      · rw [if_neg hc, if_neg (by omega)]

theorem cnt_taken (m : List UInt8) (i c : Nat) (h : i + c ≤ 8 * m.length) (hf : ∀ q : Nat, i ≤ q → q < i + c → isM m (q : Int) = false) : ∀ L, cnt (taken m i c) L = cnt m L + (if L ≤ i then 0 else if L ≤ i + c then L - i else c)
  | 0 => by simp [cnt]
  | L + 1 => by
    rw [cnt, cnt, cnt_taken m i c h hf L, taken_is m i c h]
    by_cases h1 : i ≤ L ∧ L < i + c
    · rw [if_pos (show (i : Int) ≤ (L : Int) ∧ (L : Int) < ((i + c : Nat) : Int) by omega), hf L h1.1 h1.2]
      have e1 : true.toNat = 1 := rfl
      have e2 : false.toNat = 0 := rfl
      rw [e1, e2]
      split <;> split <;> (try split) <;> (try split) <;> omega
    · rw [if_neg (show ¬ ((i : Int) ≤ (L : Int) ∧ (L : Int) < ((i + c : Nat) : Int)) by omega)]
      split <;> split <;> (try split) <;> (try split) <;> omega

theorem bound_same (m : List UInt8) (h : m.length ≤ 60) (b : Int) : ((bound m (if 0 > b then 0 else b)).toNat : Int) = if 0 > b then 0 else bound m b := by
  unfold bound
  split <;> split <;> (try split) <;> omega

theorem wainwrightlaw03_MarksTaken_row (x0 : List UInt8) (x1 : Int × Int × Int) (w0 : wfD .str x0) (w1 : wfD (.st (.pair I (.pair I I))) x1) (hb : bulk .str x0 + bulk (.st (.pair I (.pair I I))) x1 ≤ 1048576) :
    wainwrightlaw03_MarksTaken (x0, x1) = some true := by
  obtain ⟨a, b, c⟩ := x1
  have e0 : x0.length ≤ 1048576 := str_len x0 (by omega)
  have e1 : (x0.take 60).length ≤ 60 := by simp; omega
  have wa : (Lit.int .i64 a).wf = true := w1.1
  have wb : (Lit.int .i64 b).wf = true := w1.2.1
  have wc : (Lit.int .i64 c).wf = true := w1.2.2
  obtain ⟨a1, a2⟩ := i64_wf wa
  obtain ⟨b1, b2⟩ := i64_wf wb
  obtain ⟨c1, c2⟩ := i64_wf wc
  unfold wainwrightlaw03_MarksTaken
  simp only [lives3_is, early3_is x0 e0, Option.bind_some, Bool.not_true, Bool.false_eq_true, if_false]
  generalize x0.take 60 = m at e1
  obtain ⟨y, hlong⟩ := Longest_is m b (by omega)
  have hB : bound m b ≤ 480 := by unfold bound; split <;> omega
  have hB2 : bound m b ≤ b := by unfold bound; split <;> omega
  have hB3 : bound m b ≤ 8 * (m.length : Int) := by unfold bound; split <;> omega
  have hsa : (a : Int) ≤ ((start a : Nat) : Int) := by unfold start; split <;> omega
  by_cases hc : c < 1
  · have : marks_Run (m, a, b, c) = some (0, false) := by
      unfold marks_Run
      dsimp only
      rw [if_pos (by simpa using hc)]
    rw [this]
    simp only [Option.bind_some, Bool.not_false, if_true, hlong]
    rw [if_pos (by simp)]
    by_cases ha : a > 0
    · rw [if_neg (by simpa using ha)]
    · rw [if_pos (by simpa using ha), if_neg (by simpa using hc)]
  rcases Run_is m a b c (by omega) (by omega) a2 c2 b1 with ⟨k, hk1, hk2, hk3, hrun⟩ | ⟨hno, hrun⟩
  · -- a run is found
    obtain ⟨C, hC⟩ : ∃ C : Nat, c = (C : Int) := ⟨c.toNat, by omega⟩
    subst hC
    have hr1 := rowAt_le m (start a) (k + 1)
    have hCk : rowAt m (start a) (k + 1) = C := by omega
    obtain ⟨i, hi⟩ : ∃ i : Nat, i + C = start a + k + 1 := ⟨start a + k + 1 - C, by omega⟩
    have hI : ((start a + k + 1 : Nat) : Int) - (C : Int) = (i : Int) := by omega
    rw [hI] at hrun
    have hfree : ∀ q : Nat, i ≤ q → q < i + C → isM m (q : Int) = false := fun q h1 h2 => by
      have := rowAt_free m (start a) (k + 1) (q - start a) (by omega) (by omega)
      rwa [show start a + (q - start a) = q by omega] at this
    have hiC : i + C ≤ 8 * m.length := by omega
    rw [hrun]
    simp only [Option.bind_some, Bool.not_true, Bool.false_eq_true, if_false]
    rw [if_pos (by simp; omega), wrap64 (n := (i : Int) + (C : Int)) (by omega) (by omega), if_neg (by simp; omega)]
    have hloop := loop_run (f := wainwrightlaw03_MarksTaken.l1) (fun k => ((a, b, (C : Int)), m, (i : Int), taken m i k, (k : Int))) (n := C) (r := .inl ((a, b, (C : Int)), m, (i : Int), taken m i C)) (fun k hk => by
      unfold wainwrightlaw03_MarksTaken.l1
      dsimp only
      have hl := taken_len m i k
      rw [if_pos (by simp; omega), wrap64 (n := (i : Int) + (k : Int)) (by omega) (by omega), Is_is _ _ (by omega), taken_is m i k (by omega), if_neg (by omega)]
      rw [show (i : Int) + (k : Int) = ((i + k : Nat) : Int) by omega, hfree (i + k) (by omega) (by omega)]
      simp only [Option.bind_some, Bool.false_eq_true, if_false]
      rw [Set_is _ _ _ (by omega), wrap_succ (by omega)]
      rfl) (by
      unfold wainwrightlaw03_MarksTaken.l1
      dsimp only
      rw [if_neg (by simp)])
    rw [show ((a, b, (C : Int)), m, (i : Int), m, (0 : Int)) = ((a, b, (C : Int)), m, (i : Int), taken m i 0, ((0 : Nat) : Int)) from rfl, hloop]
    simp only [Option.bind_some]
    have hl := taken_len m i C
    obtain ⟨_, _, l1, l2, l3⟩ := lim_is b
    have hcnt := cnt_taken m i C hiC hfree (lim b)
    have hcl := cnt_le m (lim b)
    have hcl2 := cnt_le (taken m i C) (lim b)
    have hlim : i + C ≤ lim b := by
      by_cases h : 100000 < b
      · rw [l3 h]; omega
      · have := l2 (by omega) (by omega); omega
    have hbt : bound (taken m i C) b = bound m b := by unfold bound; rw [hl]
    have hC2 : (if lim b ≤ i then 0 else if lim b ≤ i + C then lim b - i else C) = C := by split <;> (try split) <;> omega
    rw [hC2] at hcnt
    rw [Count_is _ _ (by omega), Count_is _ _ (by omega)]
    have hle := (lim_is b).2.1
    rcases Run_is (taken m i C) a b (C : Int) (by omega) (by omega) a2 c2 b1 with ⟨k', p1, p2, p3, prun⟩ | ⟨pno, prun⟩
    · have pr1 := rowAt_le (taken m i C) (start a) (k' + 1)
      obtain ⟨j, hj⟩ : ∃ j : Nat, j + C = start a + k' + 1 := ⟨start a + k' + 1 - C, by omega⟩
      have hJ : ((start a + k' + 1 : Nat) : Int) - (C : Int) = (j : Int) := by omega
      rw [hJ] at prun
      have pfree : ∀ q : Nat, j ≤ q → q < j + C → isM (taken m i C) (q : Int) = false := fun q h1 h2 => by
        have := rowAt_free (taken m i C) (start a) (k' + 1) (q - start a) (by omega) (by omega)
        rwa [show start a + (q - start a) = q by omega] at this
      have hji : i < j := by
        refine Classical.byContradiction fun hn => ?_
        have hall : ∀ q : Nat, j ≤ q → q < j + C → isM m (q : Int) = false ∧ ¬ (i ≤ q ∧ q < i + C) := fun q h1 h2 => by
          have := pfree q h1 h2
          rw [taken_is m i C hiC] at this
          split at this
          · cases this
          · exact ⟨this, by omega⟩
        have hjC : j + C ≤ i := by
          refine Classical.byContradiction fun hn2 => ?_
          exact (hall i (by omega) (by omega)).2 ⟨Nat.le_refl _, by omega⟩
        have hge := rowAt_ge m (start a) (j - start a) C fun q h1 h2 => by
          have := (hall (start a + q) (by omega) (by omega)).1
          exact this
        have hlt := rowAt_lt m (start a) C (by omega) (j - start a + C) fun q hq hcc => hk3 q (by omega) (by rw [hcc])
        omega
      rw [prun]
      simp only [Option.bind_some]
      rw [wrap64 (n := ((cnt m (lim b) : Nat) : Int) + (C : Int)) (by omega) (by omega), if_pos (by simp; omega), if_pos (by simp)]
      simp; omega
    · rw [prun]
      simp only [Option.bind_some]
      rw [wrap64 (n := ((cnt m (lim b) : Nat) : Int) + (C : Int)) (by omega) (by omega), if_pos (by simp; omega), if_neg (by simp)]
  · -- none is found
    rw [hrun]
    simp only [Option.bind_some, Bool.not_false, if_true, hlong]
    rw [if_pos (by simp)]
    by_cases ha : a > 0
    · rw [if_neg (by simpa using ha)]
    · rw [if_pos (by simpa using ha), if_pos (by simpa using hc)]
      have hs0 : start a = 0 := by unfold start; split <;> omega
      rw [hs0] at hno
      have hbs := bound_same m e1 b
      generalize (bound m (if 0 > b then 0 else b)).toNat = NB at hbs ⊢
      have hlt := best_lt m c.toNat (by omega) NB fun j hj hcc => by
        refine hno j ?_ (by omega)
        split at hbs <;> omega
      have hfin : ((best m NB : Nat) : Int) < c := by omega
      exact congrArg some (decide_eq_true hfin)

end Go.Proofs.Ytldmeogadmgkiaa.Abs
