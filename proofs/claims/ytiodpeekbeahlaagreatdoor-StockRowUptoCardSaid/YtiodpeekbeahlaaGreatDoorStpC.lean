/- The document's deal: rows, blocks that are taken and given back. -/
import Derived.Test.YtiodpeekbeahlaaGreatDoorStpB
namespace Go.Proofs.YtiodpeekbeahlaaGreatDoor.Abs
open Go
set_option linter.unusedVariables false
attribute [-simp] List.getD_eq_getElem?_getD

/-! ### Rows -/

theorem refFree_is (m : Blk) (hl : m.length = 128) (n c i C : Nat) (hi : i + C ≤ 100000) : ∀ (d k : Nat), k + d = C → (∀ q, q < k → isM m ((i + q : Nat) : Int) = false) →
    loopO wainwrightref03_Run.l2 (m, (n : Int), (C : Int), (i : Int), true, (k : Int)) = some (m, (n : Int), (C : Int), (i : Int), freeB m i C)
  | 0, k, hk, h => by
    have : k = C := by omega
    subst this
    have hf : freeB m i k = true := (free_iff m i k).2 fun q q1 q2 => by
      have := h (q - i) (by omega)
      rwa [show i + (q - i) = q by omega] at this
    rw [hf]
    refine loopO_inr ?_
    unfold wainwrightref03_Run.l2
    simp only
    rw [if_neg (by simp)]
  | d + 1, k, hk, h => by
    have hw : IntKind.i64.wrap ((i : Int) + (k : Int)) = ((i + k : Nat) : Int) := by rw [wrap64 (by omega) (by omega)]; omega
    cases hm : isM m ((i + k : Nat) : Int) with
    | false =>
      have := refFree_is m hl n c i C hi d (k + 1) (by omega) (fun q hq => by
        by_cases e : q = k
        · rw [e]; exact hm
        · exact h q (by omega))
      rw [← this]
      refine loopO_inl ?_
      unfold wainwrightref03_Run.l2
      simp only
      rw [if_pos (by rw [decide_eq_true_eq]; omega), if_pos trivial, hw, refIs_is _ _ (by omega), Option.bind_some, hm, wrap_succ (by omega)]
      rfl
    | true =>
      have hf : freeB m i C = false := by
        cases hx : freeB m i C with
        | false => rfl
        | true =>
          have := (free_iff m i C).1 hx (i + k) (by omega) (by omega)
          rw [hm] at this; cases this
      rw [hf]
      have s1 : wainwrightref03_Run.l2 (m, (n : Int), (C : Int), (i : Int), true, (k : Int)) = some (.inl (m, (n : Int), (C : Int), (i : Int), false, ((k + 1 : Nat) : Int))) := by
        unfold wainwrightref03_Run.l2
        simp only
        rw [if_pos (by rw [decide_eq_true_eq]; omega), if_pos trivial, hw, refIs_is _ _ (by omega), Option.bind_some, hm, wrap_succ (by omega)]
        rfl
      rw [loopO_inl s1]
      refine loopO_inr ?_
      unfold wainwrightref03_Run.l2
      simp only
      by_cases hlt : ((k + 1 : Nat) : Int) < (C : Int)
      · rw [if_pos (by rw [decide_eq_true_eq]; exact hlt), if_neg (by simp)]
      · rw [if_neg (by rw [decide_eq_true_eq]; exact hlt)]

theorem refRun_run (m : Blk) (n : Nat) (c : Int) (hl : m.length = 128) (hn : n ≤ 400) (hc : 1 ≤ c) (hc2 : c < 9223372036854775808) :
    wainwrightref03_Run (m, 51, (n : Int), c) = some (match runS m 51 n c.toNat with | some i => ((i : Int), true) | none => (0, false)) := by
  unfold wainwrightref03_Run
  simp only
  rw [if_pos (decide_eq_false (by omega))]
  by_cases hbig : (n : Int) < c
  · rw [if_pos (by simpa using hbig)]
    have : runS m 51 n c.toNat = none := runS_none fun j hj => by
      cases hx : isRun m 51 n c.toNat j with
      | false => rfl
      | true =>
        obtain ⟨j1, j2, j3⟩ := (isRun_iff ..).1 hx
        omega
    rw [this]
  · rw [if_neg (by simpa using hbig)]
    obtain ⟨C, rfl⟩ : ∃ C : Nat, c = (C : Int) := ⟨c.toNat, by omega⟩
    rw [Int.toNat_natCast]
    obtain ⟨j, _, h2, h3, h4, h5⟩ := loop_first (f := wainwrightref03_Run.l1) (fun t => (m, (n : Int), (C : Int), ((51 + t : Nat) : Int))) (fun t => freeB m (51 + t) C) (r := fun t => if t < n - C + 1 - 51 then .inr (((51 + t : Nat) : Int), true) else .inl ()) (n := n - C + 1 - 51) (n - C + 1 - 51) 0 (by omega) (fun t _ ht => by
      unfold wainwrightref03_Run.l1
      simp only
      rw [if_pos (by rw [wrap64 (by omega) (by omega), decide_eq_true_eq]; omega), if_pos (by rw [wrap64 (by omega) (by omega), decide_eq_true_eq]; omega)]
      have := refFree_is m hl n 0 (51 + t) C (by omega) C 0 (by omega) (fun q hq => by omega)
      change (loopO wainwrightref03_Run.l2 (m, (n : Int), (C : Int), ((51 + t : Nat) : Int), true, ((0 : Nat) : Int))).bind _ = _
      rw [this, Option.bind_some, if_pos ht]
      cases freeB m (51 + t) C with
      | true => rw [if_pos rfl, if_pos rfl]
      | false => rw [if_neg (by simp), if_neg (by simp), wrap_succ (by omega)]; rfl) (by
      unfold wainwrightref03_Run.l1
      simp only
      rw [if_neg (by rw [wrap64 (by omega) (by omega), decide_eq_true_eq]; omega), if_neg (by omega)])
    have e0 : (m, (n : Int), (C : Int), (if (0 : Int) > 51 then 0 else 51)) = (m, (n : Int), (C : Int), ((51 + 0 : Nat) : Int)) := rfl
    rw [e0, h5, Option.bind_some]
    by_cases hj : j < n - C + 1 - 51
    · have hf := h4 hj
      have e : runS m 51 n C = some (51 + j) := by
        refine runS_some (by omega) ((isRun_iff ..).2 ⟨by omega, by omega, (free_iff ..).1 hf⟩) (fun q hq => ?_)
        cases hx : isRun m 51 n C q with
        | false => rfl
        | true =>
          obtain ⟨j1, j2, j3⟩ := (isRun_iff ..).1 hx
          have := h3 (q - 51) (by omega) (by omega)
          rw [show 51 + (q - 51) = q by omega, (free_iff ..).2 j3] at this
          cases this
      rw [if_pos hj, e]
    · have e : runS m 51 n C = none := runS_none fun q hq => by
        cases hx : isRun m 51 n C q with
        | false => rfl
        | true =>
          obtain ⟨j1, j2, j3⟩ := (isRun_iff ..).1 hx
          have := h3 (q - 51) (by omega) (by omega)
          rw [show 51 + (q - 51) = q by omega, (free_iff ..).2 j3] at this
          cases this
      rw [if_neg hj, e]

/-! ### The document's deal -/

theorem setBlk (a : List Blk) (i j : Nat) (b : Blk) : (a.set i b).getD j [] = if i = j ∧ j < a.length then b else a.getD j [] := by
  simp only [List.getD, List.getElem?_set]
  by_cases h : i = j
  · subst h
    by_cases h2 : i < a.length
    · simp [h2]
    · simp [h2]
  · simp [h]

def nowU (now : List Blk) (a : Nat) : Nat → List Blk
  | 0 => now
  | k + 1 => ((nowU now a k).set 42 (setM ((nowU now a k).getD 42 []) ((a + k : Nat) : Int) true)).set (a + k) zeroS

theorem nowU_len (now : List Blk) (a : Nat) : ∀ k, (nowU now a k).length = now.length
  | 0 => rfl
  | k + 1 => by rw [nowU, List.length_set, List.length_set, nowU_len now a k]
theorem nowU_42 (now : List Blk) (a : Nat) (ha : 51 ≤ a) (hl : 42 < now.length) : ∀ k, (nowU now a k).getD 42 [] = taken (now.getD 42 []) a k
  | 0 => rfl
  | k + 1 => by
    rw [nowU, setBlk, if_neg (by omega), setBlk, if_pos ⟨rfl, by rw [nowU_len]; exact hl⟩, nowU_42 now a ha hl k, taken]
theorem nowU_get (now : List Blk) (a : Nat) (ha : 51 ≤ a) : ∀ k, a + k ≤ now.length → ∀ j, j ≠ 42 → (nowU now a k).getD j [] = if a ≤ j ∧ j < a + k then zeroS else now.getD j []
  | 0, _, j, _ => by rw [if_neg (by omega)]; rfl
  | k + 1, h, j, hj => by
    rw [nowU, setBlk, List.length_set, nowU_len]
    by_cases e : a + k = j
    · rw [if_pos ⟨e, by omega⟩, if_pos (by omega)]
    · rw [if_neg (fun q => e q.1), setBlk, if_neg (fun q => hj q.1.symm), nowU_get now a ha k (by omega) j hj]
      by_cases h2 : a ≤ j ∧ j < a + k
      · rw [if_pos h2, if_pos (by omega)]
      · rw [if_neg h2, if_neg (by omega)]

section
variable {n : Nat} (hr : 64 ≤ n ∧ n ≤ 400) {base now : List Blk} (hl : now.length = n) (h0 : now.getD 0 [] = crownB n) (hm : (now.getD 42 []).length = 128)
include hr hl

theorem refUse_d {i : Int} (hm : (now.getD 42 []).length = 128) (hi : 51 ≤ i ∧ i < (n : Int)) : wainwrightref13_use ((base, now), i) = some (base, (now.set 42 (setM (now.getD 42 []) i true)).set i.toNat zeroS) := by
  unfold wainwrightref13_use
  simp only
  rw [if_pos (by rw [hl]; omega), refSet_is _ _ _ (by omega), Option.bind_some, if_pos (by rw [hl]; omega), refWrite_d hr (by rw [List.length_set]; exact hl) (.inr (by omega)) [] (by simp), Option.bind_some]
  rfl

include h0

theorem refCrown_d : wainwrightref12_Deal_Crown (base, now) = some ((1, (n : Int), 0), 0) := by
  unfold wainwrightref12_Deal_Crown
  simp only
  rw [if_pos (by rw [hl]; omega), h0, refCrown_r hr, Option.bind_some]
  simp only
  rw [if_pos (by decide), if_neg (by rw [decide_eq_true_eq, hl]; omega)]

include hm

theorem refRun_d {b : Nat} (hb : IsBest (now.getD 42 []) n b) (c : Int) (hc : c < 9223372036854775808) :
    wainwrightref13_Run ((base, now), c) = some (
      if c < 1 then ((base, now), 0, 0, 1) else
      if (rowS (now.getD 42 []) n b c).2 = 0 then ((base, now), 0, 0, 10) else
      ((base, nowU now (rowS (now.getD 42 []) n b c).1 (rowS (now.getD 42 []) n b c).2), ((rowS (now.getD 42 []) n b c).1 : Int), ((rowS (now.getD 42 []) n b c).2 : Int), 0)) := by
  unfold wainwrightref13_Run
  simp only
  rw [refCrown_d hr hl h0, Option.bind_some]
  simp only
  rw [if_neg (by decide)]
  by_cases h1 : c < 1
  · rw [if_pos (by simpa using h1), if_pos h1]
  · rw [if_neg (by simpa using h1), if_neg h1, if_pos (by rw [hl]; omega), refRun_run _ n c hm hr.2 (by omega) hc, Option.bind_some]
    have hbn := hb.le
    have hmid : ((match (match runS (now.getD 42 []) 51 n c.toNat with | some i => ((i : Int), true) | none => (0, false)) with
        | (r36, r36_2) => (if (!r36_2) = true then (loopO wainwrightref13_Run.l1 ((base, now, 1, (n : Int), 0), r36, 0, 1)).bind fun ((o1, o2), at9, best11) => some (((o1, o2), best11, at9)) else some (((base, now), c, r36))) : Option ((List Blk × List Blk) × Int × Int))) =
        some ((base, now), ((rowS (now.getD 42 []) n b c).2 : Int), ((rowS (now.getD 42 []) n b c).1 : Int)) := by
      unfold rowS
      cases hrn : runS (now.getD 42 []) 51 n c.toNat with
      | some i =>
        simp only
        rw [if_neg (by decide), show ((c.toNat : Nat) : Int) = c by omega]
      | none =>
        simp only
        rw [if_pos (by rfl)]
        have := loop_run (f := wainwrightref13_Run.l1) (fun i => ((base, now, 1, (n : Int), 0), (atS (now.getD 42 []) n i : Int), (i : Int), ((i + 1 : Nat) : Int))) (n := b) (r := ((base, now), (atS (now.getD 42 []) n b : Int), (b : Int))) (fun i hi => by
          unfold wainwrightref13_Run.l1
          simp only
          rw [if_pos (by rw [decide_eq_true_eq]; omega), if_pos (by rw [hl]; omega), refRun_run _ n _ hm hr.2 (by omega) (by omega), Option.bind_some, Int.toNat_natCast]
          rcases runS_spec (now.getD 42 []) 51 n (i + 1) with ⟨q, k1, _⟩ | ⟨k1, _⟩
          · rw [k1]
            simp only
            rw [if_neg (by decide), wrap_succ (by omega)]
            have : atS (now.getD 42 []) n (i + 1) = q := by unfold atS; rw [if_neg (by omega), k1]; rfl
            rw [this]
          · exact absurd k1 (run_down (c := b) (by omega) (by omega) (hb.some (by omega)))) (by
          unfold wainwrightref13_Run.l1
          simp only
          by_cases hlt : b + 1 ≤ n
          · rw [if_pos (by rw [decide_eq_true_eq]; omega), if_pos (by rw [hl]; omega), refRun_run _ n _ hm hr.2 (by omega) (by omega), Option.bind_some, Int.toNat_natCast, hb.none (b + 1) (by omega)]
            simp only
            rw [if_pos (by rfl)]
          · rw [if_neg (by rw [decide_eq_true_eq]; omega)])
        have e0 : ((base, now, (1 : Int), (n : Int), (0 : Int)), (0 : Int), (0 : Int), (1 : Int)) = ((base, now, 1, (n : Int), 0), (atS (now.getD 42 []) n 0 : Int), ((0 : Nat) : Int), ((0 + 1 : Nat) : Int)) := rfl
        rw [e0, this]
        rfl
    have hs := rowS_spec hb (c := c) (by omega)
    generalize rowS (now.getD 42 []) n b c = q at hs hmid
    obtain ⟨a, k⟩ := q
    simp only at hs hmid ⊢
    rw [hmid, Option.bind_some]
    simp only
    by_cases hk : k = 0
    · rw [if_pos (by rw [hk]; rfl), if_pos hk]
    · rw [if_neg (by simpa using hk), if_neg hk]
      obtain ⟨s1, s2, s3⟩ := hs.2 (by omega)
      have := loop_run (f := wainwrightref13_Run.l2) (fun j => ((base, nowU now a j), (k : Int), (a : Int), (j : Int))) (n := k) (r := ((base, nowU now a k), (k : Int), (a : Int))) (fun j hj => by
        have hul := nowU_len now a j
        unfold wainwrightref13_Run.l2
        simp only
        rw [if_pos (by simpa using hj), wrap64 (n := (a : Int) + (j : Int)) (by omega) (by omega), refUse_d hr (by rw [hul]; exact hl) (by rw [nowU_42 now a s1 (by omega), taken_len]; exact hm) (by omega), Option.bind_some]
        simp only
        rw [wrap_succ (by omega), show (a : Int) + (j : Int) = ((a + j : Nat) : Int) by omega, Int.toNat_natCast]
        rfl) (by
        unfold wainwrightref13_Run.l2
        simp only
        rw [if_neg (by simp)])
      rw [show ((base, now), (k : Int), (a : Int), (0 : Int)) = ((base, nowU now a 0), (k : Int), (a : Int), ((0 : Nat) : Int)) from rfl, this]
      rfl

omit hr hl hm h0 in
theorem refOwned_is (i : Int) : wainwrightref13_owned ((1, (n : Int), 0), i) = some (decide (51 ≤ i ∧ i < (n : Int))) := by
  unfold wainwrightref13_owned
  simp only
  by_cases h1 : i ≥ 51
  · rw [if_pos (by simpa using h1)]
    congr 1
    exact decide_eq_decide.2 ⟨fun q => ⟨h1, q⟩, fun q => q.2⟩
  · rw [if_neg (by simpa using h1), decide_eq_false (by omega)]

theorem refDrop_d (i : Int) : wainwrightref13_Drop ((base, now), i) = some (
      if (51 ≤ i ∧ i < (n : Int)) ∧ isM (now.getD 42 []) i = true then ((base, now.set 42 (setM (now.getD 42 []) i false)), 0) else ((base, now), 15)) := by
  unfold wainwrightref13_Drop
  simp only
  rw [refCrown_d hr hl h0, Option.bind_some]
  simp only
  rw [if_neg (by decide), refOwned_is, Option.bind_some]
  by_cases h1 : 51 ≤ i ∧ i < (n : Int)
  · rw [decide_eq_true h1, if_pos (by decide), if_pos (by rw [hl]; omega), refIs_is _ _ (by omega), Option.bind_some]
    cases hi : isM (now.getD 42 []) i with
    | false => rw [if_pos (by decide), if_neg (fun q => by cases q.2)]
    | true =>
      have h42 : 0 ≤ (42 : Int) ∧ (42 : Int) < (now.length : Int) := by rw [hl]; omega
      rw [if_neg (by decide), if_pos h42, refSet_is _ _ _ (by omega), Option.bind_some, if_pos h42, if_pos (show (51 ≤ i ∧ i < (n : Int)) ∧ true = true from ⟨h1, rfl⟩)]
  · rw [decide_eq_false h1, if_neg (by decide), if_neg (fun q => h1 q.1)]

theorem refUsed_d (i : Int) : wainwrightref13_Used ((base, now), i) = some (if 51 ≤ i ∧ i < (n : Int) then (isM (now.getD 42 []) i, 0) else (false, 1)) := by
  unfold wainwrightref13_Used
  simp only
  rw [refCrown_d hr hl h0, Option.bind_some]
  simp only
  rw [if_neg (by decide), refOwned_is, Option.bind_some]
  by_cases h1 : 51 ≤ i ∧ i < (n : Int)
  · rw [decide_eq_true h1, if_neg (by decide), if_pos (by rw [hl]; omega), refIs_is _ _ (by omega), if_pos h1]
    rfl
  · rw [decide_eq_false h1, if_pos (by decide), if_neg h1]
end

/-! ### How many are free -/

def cntF (f : Nat → Bool) : Nat → Nat
  | 0 => 0
  | n + 1 => cntF f n + (f n).toNat
theorem cntF_le (f : Nat → Bool) : ∀ L, cntF f L ≤ L
  | 0 => Nat.le_refl _
  | L + 1 => by
    have := cntF_le f L
    have := Bool.toNat_le (f L)
    rw [cntF]; omega
theorem cnt_F (m : Blk) : ∀ L, cnt m L = cntF (fun q => isM m (q : Int)) L
  | 0 => rfl
  | L + 1 => by rw [cnt, cntF, cnt_F m L]
theorem cntF_congr {f g : Nat → Bool} : ∀ L, (∀ q, q < L → f q = g q) → cntF f L = cntF g L
  | 0, _ => rfl
  | L + 1, h => by rw [cntF, cntF, cntF_congr L (fun q hq => h q (by omega)), h L (by omega)]
theorem cntF_all {f : Nat → Bool} : ∀ L, (∀ q, q < L → f q = true) → cntF f L = L
  | 0, _ => rfl
  | L + 1, h => by rw [cntF, cntF_all L (fun q hq => h q (by omega)), h L (by omega)]; rfl
def usedF (m : Blk) (q : Nat) : Bool := decide (q < 51) || isM m (q : Int)
theorem cnt_low (m : Blk) (hl : m.length = 128) (n : Nat) : cnt (lowM m) n = cntF (usedF m) n := by
  rw [cnt_F]
  refine cntF_congr n fun q _ => ?_
  unfold usedF
  rw [low_is m hl]
  by_cases h : q < 51
  · rw [if_pos (by omega), decide_eq_true h]; rfl
  · rw [if_neg (by omega), decide_eq_false h]; rfl

theorem refFreeCount_d {n : Nat} (hr : 64 ≤ n ∧ n ≤ 400) {base now : List Blk} (hl : now.length = n) (h0 : now.getD 0 [] = crownB n) (hm : (now.getD 42 []).length = 128) :
    wainwrightref13_Free (base, now) = some ((n : Int) - (cnt (lowM (now.getD 42 [])) n : Int), 0) := by
  have h51 : cntF (usedF (now.getD 42 [])) 51 = 51 := cntF_all 51 fun q hq => by unfold usedF; rw [decide_eq_true hq]; rfl
  unfold wainwrightref13_Free
  rw [refCrown_d hr hl h0, Option.bind_some]
  simp only
  rw [if_neg (by decide), cnt_low _ hm]
  have := loop_run (f := wainwrightref13_Free.l1) (fun t => ((1, (n : Int), 0), (base, now), ((51 + t : Nat) : Int) - (cntF (usedF (now.getD 42 [])) (51 + t) : Int), ((51 + t : Nat) : Int))) (n := n - 51) (r := (n : Int) - (cntF (usedF (now.getD 42 [])) n : Int)) (fun t ht => by
    have hle := cntF_le (usedF (now.getD 42 [])) (51 + t)
    have hstep : cntF (usedF (now.getD 42 [])) (51 + (t + 1)) = cntF (usedF (now.getD 42 [])) (51 + t) + (isM (now.getD 42 []) ((51 + t : Nat) : Int)).toNat := by
      rw [show 51 + (t + 1) = 51 + t + 1 by omega, cntF]
      unfold usedF
      rw [decide_eq_false (by omega)]
      rfl
    unfold wainwrightref13_Free.l1
    simp only
    rw [if_pos (by rw [decide_eq_true_eq]; omega), if_pos (by rw [hl]; omega), refIs_is _ _ (by omega), Option.bind_some, wrap_succ (n := 51 + t) (by omega), hstep]
    cases isM (now.getD 42 []) ((51 + t : Nat) : Int) with
    | true =>
      rw [if_neg (by decide), show true.toNat = 1 from rfl]
      simp only [Option.some.injEq, Sum.inl.injEq, Prod.mk.injEq, true_and]
      omega
    | false =>
      rw [if_pos (by decide), wrap64 (by omega) (by omega), show false.toNat = 0 from rfl]
      simp only [Option.some.injEq, Sum.inl.injEq, Prod.mk.injEq, true_and]
      omega) (by
    unfold wainwrightref13_Free.l1
    simp only
    rw [if_neg (by rw [decide_eq_true_eq]; omega), show 51 + (n - 51) = n by omega])
  have e0 : (((1 : Int), (n : Int), (0 : Int)), (base, now), (0 : Int), (51 : Int)) = ((1, (n : Int), 0), (base, now), ((51 + 0 : Nat) : Int) - (cntF (usedF (now.getD 42 [])) (51 + 0) : Int), ((51 + 0 : Nat) : Int)) := by
    rw [Nat.add_zero, h51]
    rfl
  rw [e0, this]
  rfl
end Go.Proofs.YtiodpeekbeahlaaGreatDoor.Abs
