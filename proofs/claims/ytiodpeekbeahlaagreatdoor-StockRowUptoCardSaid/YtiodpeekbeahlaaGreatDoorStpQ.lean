/- A row that is taken is as long as was asked, or the longest one. -/
import Derived.Test.YtiodpeekbeahlaaGreatDoorStpP
namespace Go.Proofs.YtiodpeekbeahlaaGreatDoor.Abs
open Go
set_option linter.unusedVariables false
attribute [-simp] List.getD_eq_getElem?_getD

def bestR (m : Blk) : Nat → Nat
  | 0 => 0
  | k + 1 => max (bestR m k) (rowAt m 51 (k + 1))

theorem bestR_le (m : Blk) : ∀ k, bestR m k ≤ k
  | 0 => Nat.le_refl _
  | k + 1 => by
    have := bestR_le m k
    have := rowAt_le m 51 (k + 1)
    rw [bestR]; omega
theorem bestR_ge (m : Blk) : ∀ k j, j ≤ k → rowAt m 51 j ≤ bestR m k
  | 0, j, h => by
    have : j = 0 := by omega
    subst this
    exact Nat.le_refl _
  | k + 1, j, h => by
    rw [bestR]
    by_cases e : j = k + 1
    · rw [e]; omega
    · have := bestR_ge m k j (by omega)
      omega
theorem bestR_is (m : Blk) : ∀ k, ∃ j, j ≤ k ∧ rowAt m 51 j = bestR m k
  | 0 => ⟨0, Nat.le_refl _, rfl⟩
  | k + 1 => by
    obtain ⟨j, h1, h2⟩ := bestR_is m k
    rw [bestR]
    by_cases e : bestR m k ≤ rowAt m 51 (k + 1)
    · exact ⟨k + 1, Nat.le_refl _, by omega⟩
    · exact ⟨j, by omega, by omega⟩

theorem bestR_best (m : Blk) (n : Nat) (hn : 51 ≤ n) : IsBest m n (bestR m (n - 51)) := by
  refine ⟨fun hb => ?_, fun c hc => ?_⟩
  · obtain ⟨j, h1, h2⟩ := bestR_is m (n - 51)
    have hle := rowAt_le m 51 j
    rcases runS_spec m 51 n (bestR m (n - 51)) with ⟨i, k1, _⟩ | ⟨k1, k2⟩
    · rw [k1]; simp
    · have := k2 (51 + j - bestR m (n - 51)) (by omega)
      rw [(isRun_iff ..).2 ⟨by omega, by omega, fun q q1 q2 => by
        have := rowAt_free m 51 j (q - 51) (by omega) (by omega)
        rwa [show 51 + (q - 51) = q by omega] at this⟩] at this
      cases this
  · refine runS_none fun j hj => ?_
    cases hx : isRun m 51 n c j with
    | false => rfl
    | true =>
      obtain ⟨j1, j2, j3⟩ := (isRun_iff ..).1 hx
      have ge := rowAt_ge m 51 (j - 51) c fun q r1 r2 => j3 (51 + q) (by omega) (by omega)
      have := bestR_ge m (n - 51) (j - 51 + c) (by omega)
      omega

theorem rows_loop {n : Nat} {xs : List Blk} (hB : Base n xs) {es : Loo} (h0 : getS es 0 = crownB n) (hm : (getS es 42).length = 128) (r0 r1 : List Blk) (want : Int) :
    loopO wainwrightlaw13_StockRow.l2 (((false, 0), es, r0, r1, (0, -1), xs, []), (n : Int), want, 0, 0, 51) = some (.inl (((false, 0), es, r0, r1, (0, -1), xs, []), want, (bestR (getS es 42) (n - 51) : Int))) := by
  have hr := hB.room
  have := loop_run (f := wainwrightlaw13_StockRow.l2) (fun t => (((false, 0), es, r0, r1, (0, -1), xs, []), (n : Int), want, (bestR (getS es 42) t : Int), (rowAt (getS es 42) 51 t : Int), ((51 + t : Nat) : Int))) (n := n - 51) (r := .inl (((false, 0), es, r0, r1, (0, -1), xs, []), want, (bestR (getS es 42) (n - 51) : Int))) (fun t ht => by
    have hle := rowAt_le (getS es 42) 51 t
    have hbl := bestR_le (getS es 42) t
    unfold wainwrightlaw13_StockRow.l2
    simp only
    rw [if_pos (by rw [decide_eq_true_eq]; omega), used_d hB h0 hm, if_pos (show 51 ≤ ((51 + t : Nat) : Int) ∧ ((51 + t : Nat) : Int) < (n : Int) by omega), Option.bind_some]
    simp only
    rw [if_neg (by decide), wrap_succ (n := 51 + t) (by omega)]
    simp only [bestR, rowAt]
    cases hx : isM (getS es 42) ((51 + t : Nat) : Int) with
    | true =>
      have e1 : ∀ {α : Type} (a b : α), (if true = true then a else b) = a := fun a b => if_pos rfl
      rw [e1, e1, if_neg (show ¬ (0 : Int) > (bestR (getS es 42) t : Int) by omega), Nat.max_zero]
      rfl
    | false =>
      have e1 : ∀ {α : Type} (a b : α), (if false = true then a else b) = b := fun a b => if_neg (by decide)
      rw [e1, e1, wrap_succ (by omega)]
      have hmx : (if ((rowAt (getS es 42) 51 t + 1 : Nat) : Int) > (bestR (getS es 42) t : Int) then ((rowAt (getS es 42) 51 t + 1 : Nat) : Int) else (bestR (getS es 42) t : Int)) = ((max (bestR (getS es 42) t) (rowAt (getS es 42) 51 t + 1) : Nat) : Int) := by
        split <;> omega
      rw [hmx]
      rfl) (by
    unfold wainwrightlaw13_StockRow.l2
    simp only
    rw [if_neg (by rw [decide_eq_true_eq]; omega)])
  rw [← this]
  rfl

theorem wainwrightlaw13_StockRow_row (x0 : Int) (x1 : List (Int × Int)) (x2 : Int) (w0 : wfD I x0) (w1 : wfD (.sl (.st (.pair I I))) x1) (w2 : wfD I x2)
    (hb : bulk I x0 + bulk (.sl (.st (.pair I I))) x1 + bulk I x2 ≤ 1048576) : wainwrightlaw13_StockRow (x0, x1, x2) = some true := by
  obtain ⟨n, hr, hsz⟩ := size_is x0
  obtain ⟨xs, hB, hbeg⟩ := begin_is hr []
  have hst := start_d hB []
  have hwf : ∀ p ∈ x1.take 60, p.2 < 9223372036854775808 := fun p hp => (i64_wf (w1 p (List.mem_of_mem_take hp)).2).2
  have hw2 : x2 < 9223372036854775808 := (i64_wf w2).2
  have hlen : (x1.take 60).length ≤ 60 := by simp; omega
  unfold wainwrightlaw13_StockRow
  simp only
  rw [lives_is, Option.bind_some, if_neg (by decide), hsz, Option.bind_some, hbeg, Option.bind_some]
  simp only
  rw [early_is, Option.bind_some]
  generalize x1.take 60 = S at hwf hlen
  generalize (xs.set 0 (crownB n)).set 42 (wholeS (bigM n [])) = r1 at hst
  obtain ⟨s, ⟨es, now, hs, h1⟩, hloop⟩ := loop_inv (f := wainwrightlaw13_StockRow.l1) (fun i s => ∃ es now, s = (((false, 0), es, xs, now, (0, -1), xs, []), (n : Int), S, x2, (i : Int)) ∧ Pl n (2 + 401 * i) es now) (n := S.length) (by
    rintro i s hi ⟨es, now, rfl, h⟩
    obtain ⟨es', now', e1, e2⟩ := step_d hB xs h (S.getD i (0, 0)) (hwf _ (by rw [getD_lt hi]; exact List.getElem_mem hi))
    refine ⟨_, ?_, es', now', rfl, e2.mono (by omega)⟩
    unfold wainwrightlaw13_StockRow.l1
    simp only
    rw [if_pos (by simpa using hi), if_pos (by omega), getD_nat]
    change (wainwrightlaw13_Pair_step (((false, 0), es, xs, now, (0, -1), xs, []), S.getD i (0, 0))).bind _ = _
    rw [e1, Option.bind_some]
    simp only
    rw [if_neg (by decide), wrap_succ (by omega)]) (((false, 0), es0 n [], xs, r1, (0, -1), xs, []), (n : Int), S, x2, 0) ⟨_, _, rfl, hst⟩
  rw [hloop, hs, loopO_inr (r := .inl (((false, 0), es, xs, now, (0, -1), xs, []), (n : Int), x2)) (by
    unfold wainwrightlaw13_StockRow.l1
    simp only
    rw [if_neg (by simp)]), Option.bind_some]
  simp only
  have h42 := h1.es42 hr
  have hm : (getS es 42).length = 128 := by rw [h42]; exact h1.len
  have hbest := bestR_best (getS es 42) n (by omega)
  rw [rows_loop hB h1.crown hm, Option.bind_some]
  simp only
  rw [run_d hB h1.crown hm hbest x2 hw2]
  generalize bestR (getS es 42) (n - 51) = B at hbest
  by_cases hc : x2 < 1
  · rw [if_pos hc, Option.bind_some]
    simp only
    rw [if_neg (by simp; omega), if_pos (by decide)]
    rfl
  · rw [if_neg hc]
    have hs2 := rowS_spec hbest (c := x2) (by omega)
    have hk : (rowS (getS es 42) n B x2).2 = if B < x2.toNat then B else x2.toNat := by
      unfold rowS
      rcases runS_spec (getS es 42) 51 n x2.toNat with ⟨i, k1, _⟩ | ⟨k1, _⟩
      · rw [k1]
        simp only
        rw [if_neg]
        intro hlt
        rw [hbest.none _ hlt] at k1
        cases k1
      · rw [k1]
        simp only
        rw [if_pos]
        apply Decidable.byContradiction
        intro hge
        exact run_down (c := B) (by omega) (by omega) (hbest.some (by omega)) k1
    generalize rowS (getS es 42) n B x2 = q at hs2 hk
    obtain ⟨a, k⟩ := q
    simp only at hs2 hk ⊢
    by_cases hB0 : B = 0
    · have hk0 : k = 0 := by rw [hB0] at hk; split at hk <;> omega
      rw [if_pos hk0, Option.bind_some]
      simp only
      rw [if_pos (decide_eq_false hc), if_pos (by rw [hB0]; rfl), if_pos (by decide)]
      rfl
    · have hk0 : k ≠ 0 := by split at hk <;> omega
      rw [if_neg hk0, Option.bind_some]
      simp only
      rw [if_pos (decide_eq_false hc), if_neg (by simpa using hB0), if_pos (by decide)]
      congr 1
      rw [beq_iff_eq, hk]
      split <;> split <;> omega
end Go.Proofs.YtiodpeekbeahlaaGreatDoor.Abs
