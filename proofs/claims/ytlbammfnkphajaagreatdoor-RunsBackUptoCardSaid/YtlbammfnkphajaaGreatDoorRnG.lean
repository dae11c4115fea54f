/- Runs: the laws' helpers; a deal lives; what is odd. -/
import Derived.Test.YtlbammfnkphajaaGreatDoorRnF
namespace Go.Proofs.YtlbammfnkphajaaGreatDoor.Abs
open Go
set_option linter.unusedVariables false
attribute [-simp] List.getD_eq_getElem?_getD

theorem loop_inv {σ τ : Type} {f : σ → Option (σ ⊕ τ)} (P : Nat → σ → Prop) {n : Nat} (hs : ∀ i s, i < n → P i s → ∃ s', f s = some (.inl s') ∧ P (i + 1) s') (s0 : σ) (h0 : P 0 s0) : ∃ s, P n s ∧ loopO f s0 = loopO f s := by
  have : ∀ k, k ≤ n → ∃ s, P k s ∧ loopO f s0 = loopO f s := by
    intro k
    induction k with
    | zero => intro _; exact ⟨s0, h0, rfl⟩
    | succ k ih =>
      intro hk
      obtain ⟨s, p, e⟩ := ih (by omega)
      obtain ⟨s', e', p'⟩ := hs k s (by omega) p
      exact ⟨s', p', by rw [e, loopO_inl e']⟩
  exact this n (Nat.le_refl _)

theorem sum_len1 {α : Type} (f : α → Nat) (hf : ∀ a, 1 ≤ f a) : ∀ l : List α, l.length ≤ (l.map f).sum
  | [] => Nat.zero_le _
  | a :: l => by
    have := sum_len1 f hf l
    have := hf a
    rw [List.map_cons, List.sum_cons, List.length_cons]
    omega
theorem bulk_lists (l : List (List Int)) (h : bulk (.sl (.sl I)) l ≤ 1048576) : l.length ≤ 1048576 := by
  have h2 : bulk (.sl (.sl I)) l = (l.map (bulk (.sl I))).sum + 1 := rfl
  have := sum_len1 (bulk (.sl I)) (fun (a : List Int) => by
    have := bulk_ints a
    change a.length < bulk (.sl I) a at this
    omega) l
  omega
theorem mem_lists {l : List (List Int)} (h : bulk (.sl (.sl I)) l ≤ 1048576) {a : List Int} (ha : a ∈ l) : a.length ≤ 1048576 := by
  have h2 : bulk (.sl (.sl I)) l = (l.map (bulk (.sl I))).sum + 1 := rfl
  have h3 := bulk_ints a
  change a.length < bulk (.sl I) a at h3
  have h4 : ∀ (l : List (List Int)), a ∈ l → bulk (.sl I) a ≤ (l.map (bulk (.sl I))).sum := by
    intro l
    induction l with
    | nil => intro h; cases h
    | cons b l ih =>
      intro h
      rw [List.map_cons, List.sum_cons]
      rcases List.mem_cons.1 h with rfl | h
      · omega
      · have := ih h; omega
  have := h4 l ha
  omega

/-! ### What is put inside, what is made wide -/

def inS (n : Nat) (x : Int) : Int := if (x != 0) = true then IntKind.i64.wrap (51 + IntKind.i64.wrap (Int.tmod (IntKind.u64.wrap x) (IntKind.u64.wrap (IntKind.i64.wrap ((n : Int) - 51))))) else 0
def insideS (n : Nat) (m : List Int) : List Int := (m.take 200).map (inS n)

theorem in_own {n : Nat} (hr : 64 ≤ n ∧ n ≤ 400) (x : Int) : inS n x = 0 ∨ ownI n (inS n x) = true := by
  unfold inS
  split
  · right
    have e1 : IntKind.u64.wrap (IntKind.i64.wrap ((n : Int) - 51)) = ((n - 51 : Nat) : Int) := by
      rw [wrap64 (by omega) (by omega)]
      simp only [IntKind.wrap, IntKind.signed, IntKind.bits]
      simp
      omega
    obtain ⟨M, hM, hw⟩ := tmod_nat x (n - 51) (by omega) (by omega)
    rw [e1, hw, wrap64 (by omega) (by omega)]
    unfold ownI
    rw [decide_eq_true_eq]
    omega
  · exact .inl rfl

theorem inside_len (n : Nat) (m : List Int) : (insideS n m).length ≤ 200 := by
  unfold insideS
  rw [List.length_map, List.length_take]; omega
theorem inside_entries {n : Nat} (hr : 64 ≤ n ∧ n ≤ 400) (m : List Int) : entries n (insideS n m) := by
  intro x hx
  unfold insideS at hx
  obtain ⟨y, _, rfl⟩ := List.mem_map.1 hx
  exact in_own hr y

theorem inside_s {n : Nat} (hr : 64 ≤ n ∧ n ≤ 400) (m : List Int) (hm : m.length ≤ 1048576) : lw15_inside (m, (n : Int)) = some (insideS n m) := by
  have hz : ¬ IntKind.u64.wrap (IntKind.i64.wrap ((n : Int) - 51)) = 0 := by
    rw [wrap64 (by omega) (by omega)]
    simp only [IntKind.wrap, IntKind.signed, IntKind.bits]
    simp
    omega
  have hloop := loop_run (f := lw15_inside.l1) (fun i => ((m.take i).map (inS n), m, (n : Int), (i : Int))) (n := min 200 m.length) (r := insideS n m) (fun i hi => by
    have hi2 : i < m.length := by omega
    unfold lw15_inside.l1
    dsimp only
    rw [if_pos (by simpa using hi2), if_pos (by rw [decide_eq_true_eq]; omega), if_pos (by omega), Int.toNat_natCast, List.take_succ_eq_append_getElem hi2, List.map_append, getD_lt hi2]
    have hl : ((m.take i).map (inS n)).length = i := by rw [List.length_map, List.length_take]; omega
    by_cases h0 : (m[i] != 0) = true
    · rw [if_pos h0, if_pos (by omega), if_neg hz, if_pos (room (by decide) (by rw [hl, List.length_singleton]; omega)), wrap_succ (by omega)]
      rw [List.map_cons, List.map_nil, inS, if_pos h0]
    · rw [if_neg h0, if_pos (room (by decide) (by rw [hl, List.length_singleton]; omega)), wrap_succ (by omega)]
      rw [List.map_cons, List.map_nil, inS, if_neg h0]) (by
    have e : (m.take (min 200 m.length)).map (inS n) = insideS n m := by
      unfold insideS
      rw [← List.take_take, List.take_length]
    rw [e]
    unfold lw15_inside.l1
    dsimp only
    by_cases hl : m.length ≤ 200
    · rw [if_neg (by rw [decide_eq_true_eq]; omega)]
    · rw [if_pos (by rw [decide_eq_true_eq]; omega), if_neg (by rw [decide_eq_true_eq]; omega)])
  have hloop : loopO lw15_inside.l1 ([], m, (n : Int), 0) = _ := hloop
  unfold lw15_inside
  dsimp only
  rw [hloop, Option.bind_some]

theorem wide_s (m : List Int) (hm : m.length ≤ 1048576) : lw15_wide m = some (wideS m) := by
  have hst : ∀ i, i < 120 → i < m.length → ((List.range 120).map fun q => if q < i then m.getD q 0 else 0).set i (m.getD i 0) = (List.range 120).map fun q => if q < i + 1 then m.getD q 0 else 0 := fun i hi _ => by
    refine List.ext_getElem (by simp) fun q h1 h2 => ?_
    rw [List.getElem_set]
    simp only [List.getElem_map, List.getElem_range]
    by_cases e : i = q
    · subst e
      rw [if_pos rfl, if_pos (by omega)]
    · rw [if_neg e]
      by_cases h : q < i
      · rw [if_pos h, if_pos (by omega)]
      · rw [if_neg h, if_neg (by omega)]
  have hloop := loop_run (f := lw15_wide.l1) (fun i => ((List.range 120).map fun q => if q < i then m.getD q 0 else 0, m, (i : Int))) (n := min 120 m.length) (r := wideS m) (fun i hi => by
    unfold lw15_wide.l1
    dsimp only
    rw [if_pos (by rw [decide_eq_true_eq]; omega), if_pos (by rw [decide_eq_true_eq]; simp; omega), if_pos (by omega), if_pos (by simp; omega), Int.toNat_natCast, hst i (by omega) (by omega), wrap_succ (by omega)]) (by
    have e : ((List.range 120).map fun q => if q < min 120 m.length then m.getD q 0 else 0) = wideS m := by
      unfold wideS
      refine List.map_congr_left fun q hq => ?_
      have := List.mem_range.1 hq
      by_cases h : q < min 120 m.length
      · rw [if_pos h]
      · rw [if_neg h]
        simp [List.getD, List.getElem?_eq_none (show m.length ≤ q by omega)]
    rw [e]
    unfold lw15_wide.l1
    dsimp only
    by_cases hl : m.length ≤ 120
    · rw [if_neg (by rw [decide_eq_true_eq]; omega)]
    · rw [if_pos (by rw [decide_eq_true_eq]; omega), if_neg (by rw [decide_eq_true_eq]; simp [wideS]; omega)])
  have h0 : ((List.range 120).map fun q => if q < 0 then m.getD q 0 else 0) = List.replicate 120 (0 : Int) := by
    refine List.ext_getElem (by simp) fun q h1 h2 => ?_
    rw [List.getElem_map, List.getElem_replicate, if_neg (Nat.not_lt_zero _)]
  have hloop : loopO lw15_wide.l1 (List.replicate 120 0, m, 0) = some (wideS m) := by rw [← h0]; exact hloop
  unfold lw15_wide
  rw [if_pos (by decide), hloop, Option.bind_some]

theorem wide_len (m : List Int) : (wideS m).length = 120 := by simp [wideS]

/-! ### A deal lives -/

def m0 : List Int := [60, 61, 0, 70, 0, 80, 0, 90]
theorem sp_m0 : spS m0 = [(0, 60, 2), (3, 70, 1), (5, 80, 1), (7, 90, 1)] := by decide +kernel

theorem first_new {n : Nat} (hr : 64 ≤ n ∧ n ≤ 400) : firstF (mkW (newX n) (w0 n)) n = some 51 := by
  rw [new_mk]
  refine runS_some (by omega) ((isRun_iff ..).2 ⟨Nat.le_refl _, by omega, fun q q1 q2 => ?_⟩) fun j hj => ?_
  · unfold marksB
    rw [marksU_is n 1024 (Nat.le_refl _) q (by omega), decide_eq_false (by omega)]
  · cases h : isRun (marksB n) 51 n 1 j with
    | false => rfl
    | true =>
      have := ((isRun_iff ..).1 h).1
      omega

theorem saveW_2 (xs : List Blk) (n : Nat) (w : Loo) (bs : List Int) (l : Pg) : (saveW xs n w bs l).2 = (takesW xs n (pagesS l).length (dropsW xs w bs)).2 := rfl

theorem lives_is : lw15_lives () = some true := by
  have hr : 64 ≤ 100 ∧ 100 ≤ 400 := by decide
  have hd := new_disk hr
  have hf := fresh_filed (n := 100) (xs := newX 100) (w := w0 100)
  have he : entries 100 m0 := by unfold entries m0 ownI; decide
  have ho : overM m0 = false := by decide
  have hfree := new_free hr
  have hp : (pagesS (spS m0)).length = 1 := by rw [sp_m0]; rfl
  have hs := spS_is (n := 100) (by decide) (m := m0) (by decide) he ho
  have hsv := save_s hd 0 (-1) false 0 hf m0 (by decide) he
  rw [ho, if_neg (by decide), if_neg (by rw [hp, hfree]; decide)] at hsv
  obtain ⟨s1, s2, _⟩ := save_ok hd hf hs he (by rw [hp, hfree]; decide)
  have hb : (saveW (newX 100) 100 (w0 100) [] (spS m0)).2 = [51] := by
    rw [saveW_2, hp, dropsW, takesW, first_new hr]
    dsimp only
    rw [takesW]
    rfl
  unfold lw15_lives
  rw [show (100 : Int) = ((100 : Nat) : Int) from rfl, begin_is hr, Option.bind_some]
  dsimp only
  rw [fresh_is, Option.bind_some]
  have hsv : runs_Save (((false, 0), w0 100, (0, -1), newX 100, []), fresh, [60, 61, 0, 70, 0, 80, 0, 90]) = _ := hsv
  rw [hsv, Option.bind_some]
  dsimp only
  rw [load1_s s1 0 (-1) false 0 s2 hs, Option.bind_some]
  dsimp only
  rw [hb]
  have w1 : (wideS m0).getD 1 0 = 61 := by decide +kernel
  have w7 : (wideS m0).getD 7 0 = 90 := by decide +kernel
  have hl := wide_len m0
  rw [if_pos (by decide), if_pos (by decide), hl, if_pos (by decide), if_pos (by decide), w1, if_pos (by decide), if_pos (by decide), w7, if_pos (by decide)]
  have hc : (cardS fresh (spS m0) ([51].headD 0)).2.2.2.2.2.2.2.1 = (spS m0).take 3 := rfl
  have hc2 : (cardS fresh (spS m0) ([51].headD 0)).2.2.2.2.2.2.2.2 = 51 := rfl
  rw [hc, hc2, sp_m0]
  rfl

/-! ### How long a chain is -/

/-! ### Whatever lies on a disk -/

end Go.Proofs.YtlbammfnkphajaaGreatDoor.Abs
