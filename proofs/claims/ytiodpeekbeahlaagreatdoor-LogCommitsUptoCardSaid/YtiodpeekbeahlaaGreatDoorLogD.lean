/- The log: which changes may be made. -/
import Derived.Test.YtiodpeekbeahlaaGreatDoorLogC
import Derived.Test.YtiodpeekbeahlaaGreatDoorLogA
namespace Go.Proofs.YtiodpeekbeahlaaGreatDoor.Abs
open Go
set_option linter.unusedVariables false
attribute [-simp] List.getD_eq_getElem?_getD

/-! ### Maps of numbers -/

abbrev Cnt := List (Int × Int)
def cg (es : Cnt) (i : Int) : Option Int := mget (K := .int .i64) (V := .int .i64) es i
def cp (es : Cnt) (i v : Int) : Cnt := mput (K := .int .i64) (V := .int .i64) es i v

theorem cg_cons (e : Int × Int) (es : Cnt) (i : Int) : cg (e :: es) i = if i = e.1 then some e.2 else cg es i := by
  unfold cg mget
  rw [List.find?_cons]
  change (match (i == e.1) with | true => some e | false => _).map _ = _
  by_cases h : i = e.1
  · rw [if_pos h, beq_iff_eq.2 h]; rfl
  · rw [if_neg h, beq_eq_false_iff_ne.2 h]
theorem cp_cons (e : Int × Int) (es : Cnt) (i v : Int) : cp (e :: es) i v = if i = e.1 then (i, v) :: es else e :: cp es i v := by
  unfold cp
  rw [mput]
  change (if (i == e.1) = true then _ else _) = _
  by_cases h : i = e.1
  · rw [if_pos h, if_pos (beq_iff_eq.2 h)]
  · rw [if_neg h, if_neg (by simpa using h)]
theorem cg_cp (i v j : Int) : ∀ es : Cnt, cg (cp es i v) j = if j = i then some v else cg es j
  | [] => by rw [show cp [] i v = [(i, v)] from rfl, cg_cons]
  | e :: es => by
    rw [cp_cons]
    by_cases h : i = e.1
    · rw [if_pos h, cg_cons, cg_cons]
      by_cases h2 : j = i
      · rw [if_pos h2, if_pos h2]
      · rw [if_neg h2, if_neg h2, if_neg (by rw [← h]; exact h2)]
    · rw [if_neg h, cg_cons, cg_cons, cg_cp i v j es]
      by_cases h2 : j = e.1
      · rw [if_pos h2, if_pos h2, if_neg (by rw [h2]; exact fun q => h q.symm)]
      · rw [if_neg h2, if_neg h2]

/-! ### What may be -/

def keyAt (c : Ch) (i : Nat) : Int := (c.getD i (0, [])).1
def dupAt (c : Ch) (i : Nat) (j : Int) : Bool := (List.range i).any fun k => keyAt c k == j
def freeS (n : Nat) (i : Int) : Bool := decide (0 ≤ i ∧ i < (n : Int) ∧ (i < 1 ∨ 42 ≤ i))
def okAt (n : Nat) (c : Ch) (i : Nat) : Bool := freeS n (keyAt c i) && ((c.getD i (0, [])).2.length == 128) && !dupAt c i (keyAt c i)
def rightS (n : Nat) (c : Ch) : Bool := (List.range c.length).all (okAt n c)

theorem dup_succ (c : Ch) (i : Nat) (j : Int) : dupAt c (i + 1) j = (dupAt c i j || (keyAt c i == j)) := by
  unfold dupAt
  rw [List.range_succ, List.any_append]
  simp

def seenS (c : Ch) : Nat → Cnt
  | 0 => []
  | i + 1 => cp (seenS c i) (keyAt c i) (IntKind.i64.wrap (((cg (seenS c i) (keyAt c i)).getD 0) + 1))

theorem seen_is {n : Nat} (c : Ch) : ∀ (i : Nat), (∀ k, k < i → okAt n c k = true) → ∀ j, cg (seenS c i) j = if dupAt c i j = true then some 1 else none
  | 0, _, j => rfl
  | i + 1, h, j => by
    have ih := seen_is c i (fun k hk => h k (by omega))
    have h0 := h i (by omega)
    unfold okAt at h0
    simp only [Bool.and_eq_true, Bool.not_eq_true'] at h0
    rw [seenS, cg_cp, dup_succ]
    by_cases hj : j = keyAt c i
    · subst hj
      rw [if_pos rfl, ih, h0.2, if_neg (by simp), if_pos (by simp)]
      rfl
    · rw [if_neg hj, ih, (by simpa using fun q => hj q.symm : (keyAt c i == j) = false), Bool.or_false]

theorem free_is (s : List Blk × Loo × Int × Int) (p : Bool × Int) (i : Int) : log_Log_free ((s, p), i) = some (freeS s.1.length i) := by
  unfold log_Log_free slab_Slab_Size freeS
  simp only
  by_cases h1 : i ≥ 0
  · rw [if_pos (by simpa using h1), Option.bind_some]
    by_cases h2 : i < (s.1.length : Int)
    · rw [if_pos (by simpa using h2)]
      by_cases h3 : i < 1
      · rw [if_neg (by simpa using h3), decide_eq_true (show 0 ≤ i ∧ i < (s.1.length : Int) ∧ (i < 1 ∨ 42 ≤ i) from ⟨h1, h2, .inl h3⟩)]
      · rw [if_pos (by simpa using h3)]
        congr 1
        exact decide_eq_decide.2 ⟨fun q => ⟨h1, h2, .inr q⟩, fun q => by omega⟩
    · rw [if_neg (by simpa using h2), decide_eq_false (by omega)]
  · rw [if_neg (by simpa using h1), decide_eq_false (by omega)]

theorem all_of {n : Nat} {f : Nat → Bool} {j : Nat} (h1 : j ≤ n) (h2 : ∀ i, i < j → f i = true) (h3 : j < n → f j = false) : (List.range n).all f = decide (j = n) := by
  by_cases h : j = n
  · rw [decide_eq_true h, List.all_eq_true]
    intro i hi
    exact h2 i (by have := List.mem_range.1 hi; omega)
  · rw [decide_eq_false h, List.all_eq_false]
    exact ⟨j, List.mem_range.2 (by omega), by rw [h3 (by omega)]; simp⟩

theorem right_is (s : List Blk × Loo × Int × Int) (p : Bool × Int) (c : Ch) (hc : c.length ≤ 2000000) : log_Log_right ((s, p), c) = some (rightS s.1.length c) := by
  obtain ⟨j, _, h2, h3, h4, h5⟩ := loop_first' (f := log_Log_right.l1) (fun i => (seenS c i, (s, p), c, (c.length : Int), (i : Int))) (fun i => !okAt s.1.length c i) (r := fun i => if i = c.length then .inl () else .inr false) (n := c.length) c.length 0 (by omega) (fun i _ hi hq => by
    have hs := seen_is (n := s.1.length) c i (fun k hk => by simpa using hq k (by omega) hk) (keyAt c i)
    unfold log_Log_right.l1
    simp only
    rw [if_pos (by simpa using hi), if_pos (by omega), getD_nat, free_is, Option.bind_some]
    have hm : ∀ (es : Cnt) (q : Int), mget (K := I) (V := I) es q = cg es q := fun _ _ => rfl
    have hp : ∀ (es : Cnt) (q v : Int), mput (K := I) (V := I) es q v = cp es q v := fun _ _ _ => rfl
    have hk : (c.getD i (0, [])).1 = keyAt c i := rfl
    simp only [hm, hp, hk]
    rw [wrap_succ (by omega), if_neg (show ¬ i = c.length by omega), cg_cp, if_pos rfl]
    unfold okAt
    by_cases hf : freeS s.1.length (keyAt c i) = true
    · rw [hf, if_pos (by rfl)]
      by_cases hl : (c.getD i (0, [])).2.length = 128
      · rw [if_pos (by rw [hl]; rfl), hs, hl]
        cases hd : dupAt c i (keyAt c i) with
        | true =>
          rw [if_pos rfl, if_pos (by decide), if_pos (by decide)]
        | false =>
          rw [if_neg (by decide), if_neg (by decide)]
          simp only [seenS]
          rw [hs, hd]
          rfl
      · rw [if_neg (by simp only [bne_eq_false_iff_eq]; omega), if_pos (by simp [hl])]
    · rw [if_neg (by simpa using hf), if_pos (by simp [Bool.eq_false_iff.2 hf])]) (by
    unfold log_Log_right.l1
    simp only
    rw [if_neg (by simp), if_pos trivial])
  unfold log_Log_right
  simp only
  rw [show (([] : Cnt), (s, p), c, (c.length : Int), (0 : Int)) = (seenS c 0, (s, p), c, (c.length : Int), ((0 : Nat) : Int)) from rfl, h5, Option.bind_some]
  have ha : rightS s.1.length c = decide (j = c.length) := all_of h2 (fun i hi => by simpa using h3 i (by omega) hi) (fun hj => by simpa using h4 hj)
  rw [ha]
  by_cases hj : j = c.length
  · rw [if_pos hj, decide_eq_true hj]
  · rw [if_neg hj, decide_eq_false hj]

/-! ### The document's -/

def ownS (i : Int) : Bool := decide (1 ≤ i ∧ i ≤ 41)

theorem own_is (i : Int) : wainwrightref11_own i = some (ownS i) := by
  unfold wainwrightref11_own ownS
  by_cases h : i ≥ 1
  · rw [if_pos (by simpa using h)]
    congr 1
    exact decide_eq_decide.2 ⟨fun q => ⟨h, q⟩, fun q => q.2⟩
  · rw [if_neg (by simpa using h), decide_eq_false (by omega)]

theorem refDup (c : Ch) (b : Int) (i : Nat) (hi : i < c.length) (hc : c.length ≤ 2000000) : loopO wainwrightref11_Right.l2 (c, b, (i : Int), 0) = some (if dupAt c i (keyAt c i) = true then .inr 1 else .inl (c, b, (i : Int))) := by
  obtain ⟨j, _, h2, h3, h4, h5⟩ := loop_first (f := wainwrightref11_Right.l2) (fun k => (c, b, (i : Int), (k : Int))) (fun k => keyAt c k == keyAt c i) (r := fun k => if k = i then .inl (c, b, (i : Int)) else .inr 1) (n := i) i 0 (by omega) (fun k _ hk => by
    unfold wainwrightref11_Right.l2
    simp only
    rw [if_pos (by simpa using hk), if_pos (by omega), if_pos (by omega), getD_nat, getD_nat, wrap_succ (by omega), if_neg (show ¬ k = i by omega)]
    rfl) (by
    unfold wainwrightref11_Right.l2
    simp only
    rw [if_neg (by simp), if_pos trivial])
  rw [show ((c, b, (i : Int), (0 : Int)) : Ch × Int × Int × Int) = (c, b, (i : Int), ((0 : Nat) : Int)) from rfl, h5]
  have ha : dupAt c i (keyAt c i) = !decide (j = i) := by
    have := all_of (f := fun k => !(keyAt c k == keyAt c i)) h2 (fun k hk => by simpa using h3 k (by omega) hk) (fun hj => by simpa using h4 hj)
    rw [← this]
    unfold dupAt
    rw [List.any_eq_not_all_not]
  rw [ha]
  by_cases hj : j = i
  · rw [if_pos hj, decide_eq_true hj, if_neg (by simp)]
  · rw [if_neg hj, decide_eq_false hj, if_pos (by simp)]

def mayS (n : Nat) (c : Ch) : Int := if c.length > 40 then 13 else if rightS n c = true then 0 else 1

theorem refRight_is (n : Nat) (c : Ch) (hc : c.length ≤ 2000000) : wainwrightref11_Right (c, (n : Int)) = some (mayS n c) := by
  unfold wainwrightref11_Right mayS
  simp only
  by_cases hb : c.length > 40
  · rw [if_pos (by rw [decide_eq_true_eq]; omega), if_pos hb]
  · rw [if_neg (by rw [decide_eq_true_eq]; omega), if_neg hb]
    obtain ⟨j, _, h2, h3, h4, h5⟩ := loop_first (f := wainwrightref11_Right.l1) (fun i => (c, (n : Int), (i : Int))) (fun i => !okAt n c i) (r := fun i => if i = c.length then .inl () else .inr 1) (n := c.length) c.length 0 (by omega) (fun i _ hi => by
      have hcond : 0 ≤ (i : Int) ∧ (i : Int) < (c.length : Int) := by omega
      unfold wainwrightref11_Right.l1
      simp only
      rw [if_pos (by simpa using hi), if_pos hcond, getD_nat, if_neg (show ¬ i = c.length by omega)]
      unfold okAt freeS
      change (if decide (keyAt c i < 0) = false then _ else _) = _
      by_cases k1 : keyAt c i < 0
      · rw [if_neg (by simpa using k1), if_pos (by rw [decide_eq_false (by omega)]; rfl)]
      · rw [if_pos (by simpa using k1), if_pos hcond]
        change (if decide (keyAt c i ≥ (n : Int)) = false then _ else _) = _
        by_cases k2 : keyAt c i ≥ (n : Int)
        · rw [if_neg (by simpa using k2), if_pos (by rw [decide_eq_false (by omega)]; rfl)]
        · rw [if_pos (by simpa using k2), if_pos hcond, own_is, Option.bind_some]
          change (if ownS (keyAt c i) = false then _ else _) = _
          unfold ownS
          by_cases k3 : 1 ≤ keyAt c i ∧ keyAt c i ≤ 41
          · rw [if_neg (by simpa using k3), if_pos (by rw [decide_eq_false (by omega)]; rfl)]
          · rw [if_pos (by rw [decide_eq_false_iff_not]; exact k3), if_pos hcond, decide_eq_true (show 0 ≤ keyAt c i ∧ keyAt c i < (n : Int) ∧ (keyAt c i < 1 ∨ 42 ≤ keyAt c i) by omega)]
            by_cases k4 : (c.getD i (0, [])).2.length = 128
            · rw [if_neg (by rw [k4]; decide), refDup c _ i hi hc, Option.bind_some, k4]
              cases hd : dupAt c i (keyAt c i) with
              | true => rw [if_pos rfl, if_pos (by decide)]
              | false =>
                rw [if_neg (by simp), if_neg (by decide)]
                simp only
                rw [wrap_succ (by omega)]
            · rw [if_pos (by simp only [bne_iff_ne]; omega), if_pos (by simp [k4])]) (by
      unfold wainwrightref11_Right.l1
      simp only
      rw [if_neg (by simp), if_pos trivial])
    rw [show ((c, (n : Int), (0 : Int)) : Ch × Int × Int) = (c, (n : Int), ((0 : Nat) : Int)) from rfl, h5, Option.bind_some]
    have ha : rightS n c = decide (j = c.length) := all_of h2 (fun i hi => by simpa using h3 i (by omega) hi) (fun hj => by simpa using h4 hj)
    rw [ha]
    by_cases hj : j = c.length
    · rw [if_pos hj, decide_eq_true hj, if_pos rfl]
    · rw [if_neg hj, decide_eq_false hj, if_neg (by simp)]

theorem may_is (s : List Blk × Loo × Int × Int) (k : Int) (c : Ch) (hc : c.length ≤ 2000000) : log_Log_may ((s, false, k), c) = some (mayS s.1.length c) := by
  unfold log_Log_may mayS
  simp only
  rw [if_neg (by simp)]
  by_cases hb : c.length > 40
  · rw [if_pos (by rw [decide_eq_true_eq]; omega), if_pos hb]
  · rw [if_neg (by rw [decide_eq_true_eq]; omega), if_neg hb, right_is _ _ _ hc, Option.bind_some]
    cases rightS s.1.length c <;> rfl

theorem right_at {n : Nat} {c : Ch} (h : rightS n c = true) (i : Nat) (hi : i < c.length) : freeS n (keyAt c i) = true ∧ (c.getD i (0, [])).2.length = 128 := by
  have := List.all_eq_true.1 h i (List.mem_range.2 hi)
  unfold okAt at this
  simp only [Bool.and_eq_true, beq_iff_eq] at this
  exact this.1

theorem right_mem {n : Nat} {c : Ch} (h : rightS n c = true) (x : Int × Blk) (hx : x ∈ c) : (0 ≤ x.1 ∧ x.1 < (n : Int) ∧ (x.1 < 1 ∨ 42 ≤ x.1)) ∧ x.2.length = 128 := by
  obtain ⟨i, hi, rfl⟩ := List.getElem_of_mem hx
  have := right_at h i hi
  unfold keyAt freeS at this
  rw [getD_lt hi, decide_eq_true_eq] at this
  exact this

theorem right_fits {n : Nat} {c : Ch} (h : rightS n c = true) : fits n c := fun x hx => by
  have := right_mem h x hx
  exact ⟨this.1.1, this.1.2.1, this.2⟩
end Go.Proofs.YtiodpeekbeahlaaGreatDoor.Abs
