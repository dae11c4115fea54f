/- Rolls: what is found, added and dropped. -/
import Derived.Test.YtnbhmifidhoblaaDoorLawC
namespace Go.Proofs.YtnbhmifidhoblaaDoor.Abs
open Go
set_option linter.unusedVariables false
attribute [-simp] List.getD_eq_getElem?_getD

def nm (s : List UInt8) (x : E) : Bool := x.1 == s
def left (x : E) : Bool := x.2 == 0
def has (s : List UInt8) (l : List E) : Bool := decide (l.findIdx (nm s) < l.length)

theorem at_is (l : List E) (s : List UInt8) (h : l.length ≤ 1000) : rolls_at (l, s) = some (if rightS s = true then ix (nm s) l else -1) := by
  unfold rolls_at
  simp only
  rw [paths_Right_eq, Option.bind_some]
  cases hr : rightS s
  · rfl
  · rw [if_neg (by simp), ix_name l s h, Option.bind_some, if_pos rfl]
    rfl

def findS (l : List E) (s : List UInt8) : Int × Bool := if (rightS s && has s l) = true then ((l.getD (l.findIdx (nm s)) e0).2, true) else (0, false)

theorem Find_is (l : List E) (s : List UInt8) (h : l.length ≤ 1000) : rolls_Find (l, s) = some (findS l s) := by
  unfold rolls_Find findS has
  simp only
  rw [at_is l s h, Option.bind_some]
  cases hr : rightS s
  · simp
  · unfold ix
    by_cases hf : l.findIdx (nm s) < l.length
    · simp only [if_pos hf, if_true, Bool.true_and, decide_eq_true hf]
      rw [if_neg (by simp), if_pos (by omega), getD_nat]
      rfl
    · simp [hf]

theorem refFind_is (l : List E) (s : List UInt8) (h : l.length ≤ 1000) (hs : s.length ≤ 4611686018427387904) : wainwrightref07_Find (l, s) = some (findS l s) := by
  have := loop_find (f := wainwrightref07_Find.l1) (fun i => (l, s, (i : Int))) (nm s) l (fun i => .inr ((l.getD i e0).2, true)) (.inl ()) (fun i hi => by
    unfold wainwrightref07_Find.l1
    simp only
    rw [if_pos (by simpa using hi), if_pos (by omega), if_pos (show 0 ≤ (i : Int) ∧ (i : Int) < (l.length : Int) by omega), getD_nat, wrap_succ (by omega)]
    rfl) (by unfold wainwrightref07_Find.l1; simp)
  unfold wainwrightref07_Find findS has
  simp only
  rw [refRight06_is s hs, Option.bind_some]
  cases hr : rightS s
  · simp
  · rw [if_neg (by simp), show (l, s, (0 : Int)) = (l, s, ((0 : Nat) : Int)) from rfl, this, Option.bind_some]
    by_cases hf : l.findIdx (nm s) < l.length
    · simp only [if_pos hf, Bool.true_and, decide_eq_true hf, if_true]
    · simp [hf]

/-! ### Padding -/

def padS (l : List E) : List E := l ++ List.replicate ((8 - l.length % 8) % 8) e0

theorem pad_loop (f : List E → Option (List E ⊕ List E)) (hf : ∀ l, f l = if (Int.tmod (l.length : Int) 8 != 0) = true then if roomOk (l.length + ([([], 0)] : List E).length) 24 then some (.inl (l ++ [([], 0)])) else none else some (.inr l))
    (l : List E) (h : l.length ≤ 1001) : loopO f l = some (padS l) := by
  have := loop_run (f := f) (fun i => l ++ List.replicate i e0) (r := padS l) (n := (8 - l.length % 8) % 8) (fun i hi => by
    have hl : (l ++ List.replicate i e0).length = l.length + i := by simp
    rw [hf, tmod8, hl, if_pos (by simp; omega), if_pos (room (by decide) (by simp only [List.length_cons, List.length_nil]; omega)), List.append_assoc, show ([([], 0)] : List E) = [e0] from rfl, ← List.replicate_succ']) (by
    have hl : (l ++ List.replicate ((8 - l.length % 8) % 8) e0).length = l.length + ((8 - l.length % 8) % 8) := by simp
    rw [hf, tmod8, hl, if_neg (by simp; omega)]
    rfl)
  simpa using this

theorem Of_is (l : List E) (h : l.length ≤ 1000) : rolls_Of l = some (padS l) := by
  unfold rolls_Of
  rw [clone_is l h, Option.bind_some, pad_loop rolls_Of.l1 (fun l => rfl) l (by omega), Option.bind_some]
theorem Of_is1 (l : List E) (h : l.length ≤ 999) (x : E) : rolls_Of (l ++ [x]) = some (padS (l ++ [x])) := Of_is _ (by simp; omega)
theorem refOf_is (l : List E) (h : l.length ≤ 1000) : wainwrightref07_Of l = some (padS l) := by
  unfold wainwrightref07_Of
  rw [if_pos (room (by decide) (by simp; omega)), List.nil_append, pad_loop wainwrightref07_Of.l1 (fun l => rfl) l (by omega), Option.bind_some]

/-! ### An entry more -/

theorem grow_is (n : Nat) (h : n ≤ 1001) (h0 : 0 < n) : api_Entry_8 (n : Int) = some [] := by
  unfold api_Entry_8
  have hw : IntKind.i64.wrap ((n : Int) - IntKind.i64.wrap (0 - 0)) = n := by rw [show IntKind.i64.wrap ((0 : Int) - 0) = 0 from by decide, Int.sub_zero, wrap_nat (by omega)]
  rw [if_neg (by simp), hw, if_pos (by simp; omega), if_pos (by omega), if_pos ⟨by omega, by omega, room (by decide) (by omega)⟩, if_pos (by simp)]
  simp

theorem concat_is (l : List E) (x : E) (h : l.length ≤ 999) : api_Entry_9 [l, [x]] = some (l ++ [x]) := by
  have g0 : ([l, [x]] : List (List E)).getD 0 [] = l := rfl
  have g1 : ([l, [x]] : List (List E)).getD 1 [] = [x] := rfl
  have hl1 : loopO api_Entry_9.l1 ([l, [x]], 0, [l, [x]], (2 : Int), 0) = some ([l, [x]], ((l.length + 1 : Nat) : Int)) := by
    refine loop_run (f := api_Entry_9.l1) (fun i => ([l, [x]], (match i with | 0 => 0 | 1 => (l.length : Int) | _ => ((l.length + 1 : Nat) : Int)), [l, [x]], (2 : Int), (i : Int))) (n := 2) (fun i hi => ?_) ?_
    · match i, hi with
      | 0, _ =>
        unfold api_Entry_9.l1
        simp only [g0]
        rw [if_pos (by decide), if_pos (by simp), show ((0 : Nat) : Int).toNat = 0 from rfl, g0, Int.zero_add, wrap_nat (by omega), if_neg (by simp)]
        rfl
      | 1, _ =>
        unfold api_Entry_9.l1
        simp only
        rw [if_pos (by decide), if_pos (by simp), show ((1 : Nat) : Int).toNat = 1 from rfl, g1]
        rw [show ((l.length : Int) + (([x] : List E).length : Int)) = ((l.length + 1 : Nat) : Int) by simp, wrap_nat (by omega), if_neg (by simp; omega)]
        rfl
    · unfold api_Entry_9.l1
      simp
  have hl2 : loopO api_Entry_9.l2 ([], [l, [x]], (2 : Int), 0) = some (l ++ [x]) := by
    refine loop_run (f := api_Entry_9.l2) (fun i => ((match i with | 0 => [] | 1 => l | _ => l ++ [x]), [l, [x]], (2 : Int), (i : Int))) (n := 2) (fun i hi => ?_) ?_
    · match i, hi with
      | 0, _ =>
        unfold api_Entry_9.l2
        simp only
        rw [if_pos (by decide), if_pos (by simp), show ((0 : Nat) : Int).toNat = 0 from rfl, g0, if_pos (room (by decide) (by simp; omega))]
        rfl
      | 1, _ =>
        unfold api_Entry_9.l2
        simp only
        rw [if_pos (by decide), if_pos (by simp), show ((1 : Nat) : Int).toNat = 1 from rfl, g1, if_pos (room (by decide) (by simp; omega))]
        rfl
    · unfold api_Entry_9.l2
      simp
  unfold api_Entry_9
  rw [show (([l, [x]] : List (List E)).length : Int) = 2 from rfl, hl1, Option.bind_some]
  simp only
  rw [grow_is _ (by omega) (by omega), Option.bind_some, show (([l, [x]] : List (List E)).length : Int) = 2 from rfl, hl2, Option.bind_some]

def addS (l : List E) (s : List UInt8) (n : Int) : List E × Int :=
  if (rightR l && decide (n ≥ 1) && decide (n ≤ 65535)) = true then
    if rightS s = true then
      if has s l = true then ([], 6) else
      if 160 ≤ (live l).length then ([], 12) else
      if l.findIdx left < l.length then (l.set (l.findIdx left) (s, n), 0) else (padS (l ++ [(s, n)]), 0)
    else ([], 4)
  else ([], 1)

theorem Add_is (l : List E) (s : List UInt8) (n : Int) (h : l.length ≤ 900) : rolls_Add (l, s, n) = some (addS l s n) := by
  unfold rolls_Add
  simp only
  have h1 : decide (n < 1) = !decide (n ≥ 1) := by rw [← decide_not]; exact decide_eq_decide.2 (by omega)
  have h2 : decide (n > 65535) = !decide (n ≤ 65535) := by rw [← decide_not]; exact decide_eq_decide.2 (by omega)
  rw [Right_is l (by omega), Option.bind_some, h1, h2]
  have e1 : ((if (!rightR l) = false then if (!decide (n ≥ 1)) = false then some (l, s, n, !decide (n ≤ 65535)) else some (l, s, n, true) else some (l, s, n, true)) : Option (List E × List UInt8 × Int × Bool)) = some (l, s, n, !(rightR l && decide (n ≥ 1) && decide (n ≤ 65535))) := by
    cases rightR l <;> cases decide (n ≥ 1) <;> cases decide (n ≤ 65535) <;> rfl
  rw [e1, Option.bind_some]
  unfold addS
  cases rightR l && decide (n ≥ 1) && decide (n ≤ 65535)
  · rfl
  · rw [if_neg (by simp), if_pos rfl]
    rw [paths_Right_eq, Option.bind_some]
    cases hr : rightS s
    · rfl
    · rw [if_neg (by simp), at_is l s (by omega), Option.bind_some, hr, if_pos rfl, if_pos rfl]
      unfold has
      unfold ix
      by_cases hf : l.findIdx (nm s) < l.length
      · rw [if_pos hf, if_pos (by simp), if_pos (by simp [hf])]
      · rw [if_neg hf, if_neg (by simp), if_neg (by simp [hf]), Live_is l (by omega), Option.bind_some]
        by_cases h160 : 160 ≤ (live l).length
        · rw [if_pos (by simp; omega), if_pos h160]
        · rw [if_neg (by simp; omega), if_neg h160, ix_left l (by omega), Option.bind_some]
          change (if decide (ix left l ≥ 0) = true then _ else _) = _
          unfold ix
          by_cases hl : l.findIdx left < l.length
          · rw [if_pos hl, if_pos hl, if_pos (by simp), clone_is l (by omega), Option.bind_some]
            change (if 0 ≤ ix left l ∧ ix left l < _ then some (l.set (ix left l).toNat _, (0 : Int)) else none) = _
            unfold ix
            rw [if_pos hl, if_pos (by omega), Int.toNat_natCast]
          · rw [if_neg hl, if_neg hl, if_neg (by simp), concat_is l _ (by omega), Option.bind_some, Of_is1 l (by omega), Option.bind_some]

theorem refAdd_is (l : List E) (s : List UInt8) (n : Int) (h : l.length ≤ 900) (hl : ∀ x ∈ l, x.1.length ≤ 4611686018427387904) (hs : s.length ≤ 4611686018427387904) : wainwrightref07_Add (l, s, n) = some (addS l s n) := by
  unfold wainwrightref07_Add
  simp only
  rw [refRight_is l (by omega) hl, Option.bind_some]
  unfold addS
  cases rightR l
  · rfl
  · rw [if_pos (by rfl), refNode_is, Option.bind_some]
    rw [Bool.true_and]
    cases decide (n ≥ 1) && decide (n ≤ 65535)
    · rfl
    · rw [if_neg (by simp), if_pos rfl, refRight06_is s hs, Option.bind_some]
      cases hr : rightS s
      · rfl
      · rw [if_neg (by simp), if_pos rfl, refFind_is l s (by omega) hs, Option.bind_some]
        unfold findS
        rw [hr, Bool.true_and]
        cases has s l
        · simp only [Bool.false_eq_true, if_false]
          rw [refLive_is l (by omega), Option.bind_some]
          by_cases h160 : 160 ≤ (live l).length
          · rw [if_pos (by simp; omega), if_pos h160]
          · rw [if_neg (by simp; omega), if_neg h160, if_pos (room (by decide) (by simp; omega)), List.nil_append]
            have := loop_find (f := wainwrightref07_Add.l1) (fun i => (l, s, n, (i : Int))) left l (fun i => .inr (l.set i (s, n), 0)) (.inl (l, s, n)) (fun i hi => by
              unfold wainwrightref07_Add.l1
              simp only
              rw [if_pos (by simpa using hi), if_pos (by omega), if_pos (show 0 ≤ (i : Int) ∧ (i : Int) < (l.length : Int) by omega), getD_nat, wrap_succ (by omega), Int.toNat_natCast]
              rfl) (by unfold wainwrightref07_Add.l1; simp)
            rw [show (l, s, n, (0 : Int)) = (l, s, n, ((0 : Nat) : Int)) from rfl, this, Option.bind_some]
            by_cases hlf : l.findIdx left < l.length
            · rw [if_pos hlf, if_pos hlf]
            · rw [if_neg hlf, if_neg hlf]
              simp only
              rw [if_pos (room (by decide) (by simp; omega)), refOf_is _ (by simp; omega), Option.bind_some]
        · rw [if_pos rfl, if_pos rfl]
          rfl

/-! ### An entry less -/

def dropS (l : List E) (s : List UInt8) : List E × Int × Int :=
  if rightR l = true then
    if (rightS s && has s l) = true then (l.set (l.findIdx (nm s)) e0, (l.getD (l.findIdx (nm s)) e0).2, 0) else ([], 0, 5)
  else ([], 0, 1)

theorem Drop_is (l : List E) (s : List UInt8) (h : l.length ≤ 900) : rolls_Drop (l, s) = some (dropS l s) := by
  unfold rolls_Drop dropS has
  simp only
  rw [Right_is l (by omega), Option.bind_some]
  cases rightR l
  · rfl
  · rw [if_neg (by simp), at_is l s (by omega), Option.bind_some, if_pos rfl]
    cases hr : rightS s
    · simp
    · rw [if_pos rfl, Bool.true_and]
      unfold ix
      by_cases hf : l.findIdx (nm s) < l.length
      · rw [if_pos hf, if_neg (by simp), clone_is l (by omega), Option.bind_some, if_pos (by omega), if_pos (by omega), if_pos (by simp [hf]), Int.toNat_natCast]
        rfl
      · rw [if_neg hf, if_pos (by simp), if_neg (by simp [hf])]

def dr (s : List UInt8) (x : E) : E := if nm s x = true then e0 else x

theorem dr_state (l : List E) (s : List UInt8) {j : Nat} (h : j < l.length) :
    (l.take (j + 1)).map (dr s) ++ l.drop (j + 1) = if nm s (l.getD j e0) = true then ((l.take j).map (dr s) ++ l.drop j).set j e0 else (l.take j).map (dr s) ++ l.drop j := by
  rw [take_succ_getD h e0, List.map_append, List.map_cons, List.map_nil, List.append_assoc, List.drop_eq_getElem_cons h, ← getD_lt (d := e0) h]
  have hl : ((l.take j).map (dr s)).length = j := by simp; omega
  by_cases hn : nm s (l.getD j e0) = true
  · rw [if_pos hn, List.set_append_right _ _ (by omega), hl, Nat.sub_self, List.set_cons_zero]
    unfold dr
    rw [if_pos hn]; rfl
  · rw [if_neg hn]
    unfold dr
    rw [if_neg hn]; rfl

theorem dr_loop (l : List E) (s : List UInt8) (n : Int) (h : l.length ≤ 900) : loopO wainwrightref07_Drop.l1 (l, s, n, 0) = some (l.map (dr s), n) := by
  have := loop_run (f := wainwrightref07_Drop.l1) (fun j => ((l.take j).map (dr s) ++ l.drop j, s, n, (j : Int))) (r := (l.map (dr s), n)) (n := l.length) (fun j hj => by
    have hl : ((l.take j).map (dr s) ++ l.drop j).length = l.length := by simp; omega
    have hg : ((l.take j).map (dr s) ++ l.drop j).getD j e0 = l.getD j e0 := by
      have hl2 : ((l.take j).map (dr s)).length = j := by simp; omega
      simp only [List.getD]
      rw [List.getElem?_append_right (by omega), hl2, Nat.sub_self, List.getElem?_drop, Nat.add_zero]
    unfold e0 at hg
    unfold wainwrightref07_Drop.l1
    simp only
    rw [hl, if_pos (by simpa using hj), if_pos (by omega), getD_nat, hg, wrap_succ (by omega), dr_state l s hj, Int.toNat_natCast]
    change (if nm s (l.getD j e0) = true then _ else _) = _
    by_cases hn : nm s (l.getD j e0) = true
    · rw [if_pos hn, if_pos hn, if_pos (by omega)]; rfl
    · rw [if_neg hn, if_neg hn]) (by unfold wainwrightref07_Drop.l1; simp)
  simpa using this

theorem dr_set (l : List E) (s : List UInt8) (hr : rightR l = true) (hs : rightS s = true) (hf : l.findIdx (nm s) < l.length) : l.map (dr s) = l.set (l.findIdx (nm s)) e0 := by
  have hat := findIdx_at hf
  have hall : ∀ i, i < l.length → nm s (l.getD i e0) = true → i = l.findIdx (nm s) := by
    intro i hi hn
    unfold rightR at hr
    simp only [Bool.and_eq_true, decide_eq_true_eq, Bool.not_eq_true'] at hr
    obtain ⟨⟨⟨_, h2⟩, h3⟩, _⟩ := hr
    have hb := (right_iff l).1 ⟨h2, h3⟩
    have key : ∀ i k, k < i → i < l.length → nm s (l.getD i e0) = true → nm s (l.getD k e0) = true → False := by
      intro i k h1 h2 h3 h4
      have hbi := hb i h2
      unfold badAt at hbi
      unfold nm at h3 h4
      rw [beq_iff_eq] at h3 h4
      have he : emptyE (l.getD i e0) = false := by
        unfold emptyE
        rw [h3, show (s == []) = false from ?_]
        · rfl
        · cases s with
          | nil => exact absurd hs (by decide)
          | cons a t => rfl
      rw [he, Bool.not_false, Bool.true_and, Bool.or_eq_false_iff, List.any_eq_false] at hbi
      refine hbi.2 (l.getD k e0) ?_ (by rw [h3, h4]; simp)
      rw [getD_lt (show k < l.length by omega), List.mem_take_iff_getElem]
      exact ⟨k, by omega, rfl⟩
    rcases Nat.lt_trichotomy i (l.findIdx (nm s)) with h | h | h
    · exact (key _ i h hf hat hn).elim
    · exact h
    · exact (key i _ h hi hn hat).elim
  refine List.ext_getElem (by simp) fun i h1 h2 => ?_
  have hi : i < l.length := by simpa using h1
  rw [List.getElem_map, List.getElem_set]
  unfold dr
  by_cases hn : nm s l[i] = true
  · rw [if_pos hn]
    have := hall i hi (by rw [getD_lt hi]; exact hn)
    rw [if_pos this.symm]
  · rw [if_neg hn, if_neg]
    intro e
    rw [getD_lt hf] at hat
    simp only [e] at hat
    exact hn hat

theorem refDrop_is (l : List E) (s : List UInt8) (h : l.length ≤ 900) (hl : ∀ x ∈ l, x.1.length ≤ 4611686018427387904) (hs : s.length ≤ 4611686018427387904) : wainwrightref07_Drop (l, s) = some (dropS l s) := by
  unfold wainwrightref07_Drop dropS
  simp only
  rw [refRight_is l (by omega) hl, Option.bind_some]
  cases hR : rightR l
  · rfl
  · rw [if_neg (by simp), if_pos rfl, refFind_is l s (by omega) hs, Option.bind_some]
    unfold findS
    cases hb : (rightS s && has s l)
    · rfl
    · rw [if_pos rfl, if_pos rfl]
      simp only
      rw [if_neg (by simp), if_pos (room (by decide) (by simp; omega)), List.nil_append, dr_loop l s _ h, Option.bind_some]
      simp only [Bool.and_eq_true] at hb
      unfold has at hb
      rw [dr_set l s hR hb.1 (by simpa using hb.2)]

/-! ### The same -/

theorem Same_is (l : List E) (h : l.length ≤ 1000) : wainwrightref07_Same (l, l) = some true := by
  have := loop_run (f := wainwrightref07_Same.l1) (fun i => (l, l, (i : Int))) (r := .inl ()) (n := l.length) (fun i hi => by
    unfold wainwrightref07_Same.l1
    simp only
    rw [if_pos (by simpa using hi), if_pos (by omega), if_pos (by omega), getD_nat, wrap_succ (by omega)]
    simp) (by unfold wainwrightref07_Same.l1; simp)
  unfold wainwrightref07_Same
  simp only
  rw [if_neg (by simp), show (l, l, (0 : Int)) = (l, l, ((0 : Nat) : Int)) from rfl, this, Option.bind_some]

theorem addS_len (l : List E) (s : List UInt8) (n : Int) (h : l.length ≤ 900) : (addS l s n).1.length ≤ 1000 := by
  unfold addS padS
  repeat' split
  all_goals simp
  all_goals omega
theorem dropS_len (l : List E) (s : List UInt8) (h : l.length ≤ 900) : (dropS l s).1.length ≤ 1000 := by
  unfold dropS
  repeat' split
  all_goals simp
  all_goals omega

theorem early_is (l : List E) : wainwrightlaw07_early l = some (l.take 200) := by
  unfold wainwrightlaw07_early
  by_cases h : 200 < (l.length : Int)
  · rw [if_pos h, if_pos (by omega)]; rfl
  · rw [if_neg h, if_pos (by omega)]
    rw [Int.toNat_natCast, List.take_length, List.take_of_length_le (by omega)]

theorem early_names {l : List E} (h : bulk (.sl (.st (.pair .str I))) l ≤ 1048576) : ∀ x ∈ l.take 200, x.1.length ≤ 4611686018427387904 := by
  intro x hx
  replace hx := List.mem_of_mem_take hx
  have : bulk (.st (.pair .str I)) x ≤ (l.map (bulk (.st (.pair .str I)))).sum := by
    clear h
    induction l with
    | nil => cases hx
    | cons a t ih =>
      rcases List.mem_cons.1 hx with rfl | hx
      · simp
      · have := ih hx
        simp only [List.map_cons, List.sum_cons]; omega
  simp only [bulk] at this h
  omega

theorem RollsChange_core (l : List E) (s : List UInt8) (n : Int) (h : l.length ≤ 200) (hl : ∀ x ∈ l, x.1.length ≤ 4611686018427387904) (hs : s.length ≤ 4611686018427387904) :
    (rolls_Add (l, s, n)) = some (addS l s n) ∧ wainwrightref07_Add (l, s, n) = some (addS l s n) ∧ rolls_Drop (l, s) = some (dropS l s) ∧ wainwrightref07_Drop (l, s) = some (dropS l s) :=
  ⟨Add_is l s n (by omega), refAdd_is l s n (by omega) hl hs, Drop_is l s (by omega), refDrop_is l s (by omega) hl hs⟩

theorem wainwrightlaw07_RollsChange_row (x0 : List E) (x1 : List UInt8) (x2 : Int) (w0 : wfD (.sl (.st (.pair .str I))) x0) (w1 : wfD .str x1) (w2 : wfD I x2)
    (hb : bulk (.sl (.st (.pair .str I))) x0 + (bulk .str x1 + bulk I x2) ≤ 1048576) : wainwrightlaw07_RollsChange (x0, x1, x2) = some true := by
  have hnm := early_names (l := x0) (by omega)
  have hs : x1.length ≤ 4611686018427387904 := by simp only [bulk] at hb; omega
  unfold wainwrightlaw07_RollsChange
  simp only
  rw [lives_is, Option.bind_some, if_neg (by simp), early_is, Option.bind_some]
  have hlen : (x0.take 200).length ≤ 200 := by simp; omega
  generalize x0.take 200 = l at hnm hlen
  obtain ⟨h1, h2, h3, h4⟩ := RollsChange_core l x1 x2 hlen hnm hs
  rw [h1, Option.bind_some, h2, Option.bind_some, h3, Option.bind_some, h4, Option.bind_some]
  have a1 := Same_is _ (addS_len l x1 x2 (by omega))
  have a2 := Same_is _ (dropS_len l x1 (by omega))
  simp only [beq_self_eq_true, if_true, a1, a2, Option.bind_some]

theorem wainwrightlaw07_RollsTell_row (x0 : List E) (x1 : List UInt8) (w0 : wfD (.sl (.st (.pair .str I))) x0) (w1 : wfD .str x1)
    (hb : bulk (.sl (.st (.pair .str I))) x0 + bulk .str x1 ≤ 1048576) : wainwrightlaw07_RollsTell (x0, x1) = some true := by
  have hnm := early_names (l := x0) (by omega)
  have hs : x1.length ≤ 4611686018427387904 := by simp only [bulk] at hb; omega
  unfold wainwrightlaw07_RollsTell
  simp only
  rw [lives_is, Option.bind_some, if_neg (by simp), early_is, Option.bind_some]
  have hlen : (x0.take 200).length ≤ 200 := by simp; omega
  generalize x0.take 200 = l at hnm hlen
  have ll := live_len l
  rw [Find_is l x1 (by omega), Option.bind_some, refFind_is l x1 (by omega) hs, Option.bind_some]
  simp only [beq_self_eq_true, if_true]
  rw [Right_is l (by omega), Option.bind_some, refRight_is l (by omega) hnm, Option.bind_some, if_pos (by simp), Live_is l (by omega), Option.bind_some, refLive_is l (by omega), Option.bind_some, Same_is _ (by omega), Option.bind_some, if_pos rfl,
    Of_is l (by omega), Option.bind_some, refOf_is l (by omega), Option.bind_some, Same_is _ (by unfold padS; simp; omega), Option.bind_some]
end Go.Proofs.YtnbhmifidhoblaaDoor.Abs
