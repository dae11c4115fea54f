/- Rolls: adds and drops, in whatever row. -/
import Derived.Test.YtnbhmifidhoblaaDoorLawE
namespace Go.Proofs.YtnbhmifidhoblaaDoor.Abs
open Go
set_option linter.unusedVariables false
attribute [-simp] List.getD_eq_getElem?_getD

theorem perm_at (l : List E) {k : Nat} (hk : k < l.length) : l.Perm (l.getD k e0 :: (l.take k ++ l.drop (k + 1))) := by
  conv => lhs; rw [← List.take_append_drop k l, List.drop_eq_getElem_cons hk]
  rw [getD_lt hk]
  exact List.perm_middle

theorem live_app (a b : List E) : live (a ++ b) = live a ++ live b := List.filter_append ..
theorem live_cons (x : E) (b : List E) : live (x :: b) = if keep x = true then x :: live b else live b := by
  unfold live; rw [List.filter_cons]
theorem live_at (l : List E) {k : Nat} (hk : k < l.length) : live l = live (l.take k) ++ ((if keep (l.getD k e0) = true then [l.getD k e0] else []) ++ live (l.drop (k + 1))) := by
  conv => lhs; rw [← List.take_append_drop k l, List.drop_eq_getElem_cons hk, live_app, live_cons]
  rw [getD_lt hk]
  split <;> rfl
theorem live_set (l : List E) {k : Nat} (hk : k < l.length) (y : E) : live (l.set k y) = live (l.take k) ++ ((if keep y = true then [y] else []) ++ live (l.drop (k + 1))) := by
  rw [List.set_eq_take_append_cons_drop, if_pos hk, live_app, live_cons]
  split <;> rfl
theorem live_put {l : List E} {k : Nat} (hk : k < l.length) {y : E} (h1 : keep (l.getD k e0) = false) (h2 : keep y = true) : (live (l.set k y)).Perm (y :: live l) := by
  rw [live_set l hk, live_at l hk, h1, h2, if_pos rfl, if_neg (by simp), List.nil_append, List.singleton_append]
  exact List.perm_middle
theorem live_take {l : List E} {k : Nat} (hk : k < l.length) (h1 : keep (l.getD k e0) = true) : (live l).Perm (l.getD k e0 :: live (l.set k e0)) := by
  rw [live_set l hk, live_at l hk, h1, show keep e0 = false from rfl, if_pos rfl, if_neg (by simp), List.nil_append, List.singleton_append]
  exact List.perm_middle

theorem odd_e0 : oddE e0 = false := rfl
theorem odd_cases {x : E} (h : oddE x = false) : x = e0 ∨ fitE x = true := by
  rw [odd_fit] at h
  cases he : emptyE x
  · rw [he] at h
    exact .inr (by simpa using h)
  · unfold emptyE at he
    simp only [Bool.and_eq_true, beq_iff_eq] at he
    exact .inl (Prod.ext he.1 he.2)
theorem fit_parts {x : E} (h : fitE x = true) : 1 ≤ x.2 ∧ x.2 ≤ 65535 ∧ rightS x.1 = true := by
  unfold fitE at h
  simp only [Bool.and_eq_true, decide_eq_true_eq] at h
  exact ⟨h.1.1, h.1.2, h.2⟩
theorem fit_keep {x : E} (h : fitE x = true) : keep x = true := by
  have := (fit_parts h).1
  unfold keep; simp; omega
theorem fit_odd {x : E} (h : fitE x = true) : oddE x = false := by rw [odd_fit, h]; simp
theorem right_ne {s : List UInt8} (h : rightS s = true) : s ≠ [] := fun e => by rw [e] at h; exact absurd h (by decide)

/-- A roll that holds just the wanted entries. -/
structure Holds (l want : List E) : Prop where
  h8 : l.length % 8 = 0
  len : l.length ≤ 168
  fit : ∀ x ∈ l, oddE x = false
  perm : (live l).Perm want
  names : (want.map (·.1)).Nodup
  most : want.length ≤ 160

theorem Holds.fits {l want : List E} (h : Holds l want) : ∀ x ∈ want, x ∈ l ∧ fitE x = true := fun x hx => by
  have hx := (h.perm.mem_iff).2 hx
  unfold live at hx
  rw [List.mem_filter] at hx
  rcases odd_cases (h.fit x hx.1) with rfl | hf
  · exact absurd hx.2 (by decide)
  · exact ⟨hx.1, hf⟩
theorem Holds.right {l want : List E} (h : Holds l want) : rightR l = true := by
  have hd : distinct l := by unfold distinct; exact (h.perm.map (·.1)).nodup_iff.2 h.names
  have ho : l.any oddE = false := by rw [List.any_eq_false]; intro x hx; rw [h.fit x hx]; simp
  have hl := h.perm.length_eq
  have := h.most
  unfold rightR
  rw [ho]
  simp only [h.h8, hd, decide_true, Bool.not_false, Bool.and_true, Bool.true_and, decide_eq_true_eq]
  omega
theorem Holds.mem {l want : List E} (h : Holds l want) {x : E} (hx : x ∈ l) (hn : x.1 ≠ []) : x ∈ want := by
  rcases odd_cases (h.fit x hx) with rfl | hf
  · exact absurd rfl hn
  · exact h.perm.mem_iff.1 (List.mem_filter.2 ⟨hx, fit_keep hf⟩)
theorem Holds.one {l want : List E} (h : Holds l want) {x y : E} (hx : x ∈ want) (hy : y ∈ want) (e : x.1 = y.1) : x = y := by
  have hp := h.names
  unfold List.Nodup at hp
  rw [List.pairwise_map, List.pairwise_iff_getElem] at hp
  obtain ⟨i, hi, rfl⟩ := List.getElem_of_mem hx
  obtain ⟨j, hj, rfl⟩ := List.getElem_of_mem hy
  rcases Nat.lt_trichotomy i j with q | q | q
  · exact absurd e (hp i j hi hj q)
  · subst q; rfl
  · exact absurd e.symm (hp j i hj hi q)
theorem getD_mem {l : List E} {i : Nat} (h : i < l.length) : l.getD i e0 ∈ l := by rw [getD_lt h]; exact List.getElem_mem _

/-- What is wanted is found. -/
theorem Holds.finds {l want : List E} (h : Holds l want) {x : E} (hx : x ∈ want) : rightS x.1 = true ∧ has x.1 l = true ∧ l.getD (l.findIdx (nm x.1)) e0 = x := by
  obtain ⟨h1, h2⟩ := h.fits x hx
  have h3 := (fit_parts h2).2.2
  have hf : l.findIdx (nm x.1) < l.length := List.findIdx_lt_length_of_exists ⟨x, h1, by unfold nm; simp⟩
  refine ⟨h3, by unfold has; simp [hf], ?_⟩
  have hat := findIdx_at hf
  unfold nm at hat
  rw [beq_iff_eq] at hat
  have hm := h.mem (getD_mem hf) (by unfold nm; rw [hat]; exact right_ne h3)
  exact h.one hm hx hat
/-- What is not wanted is not found. -/
theorem Holds.lacks {l want : List E} (h : Holds l want) {s : List UInt8} (hs : ∀ x ∈ want, x.1 ≠ s) : (rightS s && has s l) = false := by
  cases hr : rightS s
  · rfl
  · rw [Bool.true_and]
    unfold has
    rw [decide_eq_false_iff_not]
    intro hf
    have hat := findIdx_at hf
    unfold nm at hat
    rw [beq_iff_eq] at hat
    exact hs _ (h.mem (getD_mem hf) (by unfold nm; rw [hat]; exact right_ne hr)) hat

/-! ### Where a name is among the wanted -/

def la (want : List E) (s : List UInt8) : Nat → Int
  | 0 => -1
  | k + 1 => if nm s (want.getD k e0) = true then (k : Int) else la want s k
theorem la_cases (want : List E) (s : List UInt8) : ∀ k, (la want s k = -1 ∧ ∀ j, j < k → nm s (want.getD j e0) = false) ∨ ∃ j : Nat, j < k ∧ la want s k = j ∧ nm s (want.getD j e0) = true
  | 0 => .inl ⟨rfl, fun j hj => by omega⟩
  | k + 1 => by
    rw [la]
    split
    · rename_i h; exact .inr ⟨k, by omega, rfl, h⟩
    · rename_i h
      rcases la_cases want s k with ⟨h1, h2⟩ | ⟨j, h1, h2, h3⟩
      · refine .inl ⟨h1, fun j hj => ?_⟩
        by_cases e : j = k
        · subst e; simpa using h
        · exact h2 j (by omega)
      · exact .inr ⟨j, by omega, h2, h3⟩

theorem at_loop (want script l : List E) (s : List UInt8) (n i : Int) (hw : want.length ≤ 160) :
    loopO wainwrightlaw07_RollsPlay.l2 ((want, s, n), script, l, i, -1, 0) = some ((want, s, n), script, l, i, la want s want.length) := by
  refine loop_run (f := wainwrightlaw07_RollsPlay.l2) (fun k => ((want, s, n), script, l, i, la want s k, (k : Int))) (n := want.length) (fun k hk => ?_) ?_
  · unfold wainwrightlaw07_RollsPlay.l2
    simp only
    rw [if_pos (by simpa using hk), if_pos (by omega), getD_nat, wrap_succ (by omega), la]
    change (if nm s (want.getD k e0) = true then _ else _) = _
    split <;> rfl
  · unfold wainwrightlaw07_RollsPlay.l2
    simp

/-! ### A step -/

theorem Holds.drop {l want : List E} (h : Holds l want) {j : Nat} (hj : j < want.length) :
    Holds (l.set (l.findIdx (nm (want.getD j e0).1)) e0) (want.take j ++ want.drop (j + 1)) := by
  obtain ⟨f1, f2, f3⟩ := h.finds (getD_mem hj)
  have hf : l.findIdx (nm (want.getD j e0).1) < l.length := by simpa [has] using f2
  obtain ⟨g1, g2⟩ := h.fits _ (getD_mem hj)
  have p1 := live_take hf (by rw [f3]; exact fit_keep g2)
  rw [f3] at p1
  have p2 := perm_at want hj
  have hp : (live (l.set (l.findIdx (nm (want.getD j e0).1)) e0)).Perm (want.take j ++ want.drop (j + 1)) := (List.perm_cons _).1 (p1.symm.trans (h.perm.trans p2))
  refine ⟨by rw [List.length_set]; exact h.h8, by rw [List.length_set]; exact h.len, fun x hx => ?_, hp, ?_, ?_⟩
  · rcases List.mem_or_eq_of_mem_set hx with hx | rfl
    · exact h.fit x hx
    · exact odd_e0
  · have := (p2.map (·.1)).nodup_iff.1 h.names
    rw [List.map_cons, List.nodup_cons] at this
    exact this.2
  · have := h.most
    have := p2.length_eq
    rw [List.length_cons] at this
    omega

theorem Holds.add {l want : List E} (h : Holds l want) {s : List UInt8} {n : Int} (h1 : 1 ≤ n) (h2 : n ≤ 65535) (h3 : rightS s = true) (h4 : ∀ x ∈ want, x.1 ≠ s) (h5 : want.length < 160) :
    addS l s n = (if l.findIdx left < l.length then l.set (l.findIdx left) (s, n) else padS (l ++ [(s, n)]), 0) ∧
    Holds (if l.findIdx left < l.length then l.set (l.findIdx left) (s, n) else padS (l ++ [(s, n)])) (want ++ [(s, n)]) := by
  have hfit : fitE (s, n) = true := by unfold fitE; simp only [h3, Bool.and_true, Bool.and_eq_true, decide_eq_true_eq]; exact ⟨h1, h2⟩
  have hla := h.lacks h4
  rw [h3, Bool.true_and] at hla
  have hll := h.perm.length_eq
  have hnew : ((want ++ [(s, n)]).map (·.1)).Nodup := by
    rw [List.map_append, List.nodup_append]
    refine ⟨h.names, by simp, fun a ha b hb => ?_⟩
    obtain ⟨x, hx, rfl⟩ := List.mem_map.1 ha
    simp only [List.map_cons, List.map_nil, List.mem_singleton] at hb
    subst hb
    exact h4 x hx
  constructor
  · unfold addS
    rw [h.right, h3, hla, if_pos (by simp [h1, h2]), if_pos rfl, if_neg (by simp), if_neg (by omega)]
    split <;> rfl
  · by_cases hf : l.findIdx left < l.length
    · rw [if_pos hf]
      have hat : left (l.getD (l.findIdx left) e0) = true := findIdx_at hf
      have hk : keep (l.getD (l.findIdx left) e0) = false := by
        show (!left _) = false
        rw [hat]; rfl
      refine ⟨by rw [List.length_set]; exact h.h8, by rw [List.length_set]; exact h.len, fun x hx => ?_, ?_, hnew, by simp; omega⟩
      · rcases List.mem_or_eq_of_mem_set hx with hx | rfl
        · exact h.fit x hx
        · exact fit_odd hfit
      · refine (live_put hf hk (fit_keep hfit)).trans ?_
        exact ((h.perm.cons (s, n)).trans (List.perm_append_singleton (s, n) want).symm)
    · rw [if_neg hf]
      have hall : live l = l := List.filter_eq_self.2 fun x hx => by
        obtain ⟨i, hi, rfl⟩ := List.getElem_of_mem hx
        have hJ := List.findIdx_le_length (p := left) (xs := l)
        have := findIdx_lt (p := left) (l := l) (j := i) (by omega)
        rw [getD_lt hi] at this
        unfold left at this
        unfold keep
        rw [this]; rfl
      have hl8 := h.h8
      have hlen : l.length < 160 := by rw [← hall]; omega
      have hpl : (padS (l ++ [(s, n)])).length = l.length + 8 := by unfold padS; simp only [List.length_append, List.length_cons, List.length_nil, List.length_replicate]; omega
      refine ⟨by rw [hpl]; omega, by rw [hpl]; omega, fun x hx => ?_, ?_, hnew, by simp; omega⟩
      · unfold padS at hx
        rw [List.mem_append, List.mem_append] at hx
        rcases hx with (hx | hx) | hx
        · exact h.fit x hx
        · rw [List.mem_singleton] at hx
          subst hx
          exact fit_odd hfit
        · rw [List.eq_of_mem_replicate hx]; exact odd_e0
      · unfold padS
        rw [live_app, live_app, live_cons, fit_keep hfit, if_pos rfl]
        have hz : ∀ k, live (List.replicate k e0) = [] := fun k => List.filter_eq_nil_iff.2 fun x hx => by rw [List.eq_of_mem_replicate hx]; decide
        rw [hz, List.append_nil]
        exact h.perm.append_right _

theorem play_step (script want l : List E) (i : Nat) (hi : i < script.length) (hsl : script.length ≤ 200) (hnm : ∀ x ∈ script, x.1.length ≤ 4611686018427387904) (h : Holds l want) :
    ∃ want2 l2, Holds l2 want2 ∧ wainwrightlaw07_RollsPlay.l1 (want, script, l, (i : Int)) = some (.inl (want2, script, l2, ((i + 1 : Nat) : Int))) := by
  have hmost := h.most
  have hlen := h.len
  have hw := wrap_succ (n := i) (by omega)
  have hxl := hnm _ (getD_mem hi)
  unfold wainwrightlaw07_RollsPlay.l1
  simp only
  rw [if_pos (by simpa using hi), if_pos (by omega), getD_nat]
  rw [show (([], 0) : E) = e0 from rfl]
  generalize script.getD i e0 = x at hxl
  obtain ⟨s, n⟩ := x
  simp only at hxl ⊢
  rw [at_loop want script l s n i (by omega), Option.bind_some]
  simp only
  rcases la_cases want s want.length with ⟨q1, q2⟩ | ⟨j, q0, q1, q2⟩
  · -- not wanted
    rw [q1]
    have h4 : ∀ x ∈ want, x.1 ≠ s := fun x hx e => by
      obtain ⟨k, hk, rfl⟩ := List.getElem_of_mem hx
      have := q2 k hk
      rw [getD_lt hk] at this
      unfold nm at this
      rw [e] at this; simp at this
    have hla := h.lacks h4
    by_cases hn : n < 1
    · rw [if_pos (by simpa using hn), Drop_is l s (by omega), Option.bind_some]
      have hd : dropS l s = ([], 0, 5) := by unfold dropS; rw [h.right, hla]; rfl
      rw [hd]
      refine ⟨want, l, h, ?_⟩
      simp only
      rw [if_pos (by rfl), if_neg (by decide), Option.bind_some]
      simp only
      rw [if_neg (by decide), hw]
    · rw [if_neg (by simpa using hn), Add_is l s n (by omega), Option.bind_some, refRight06_is s hxl, Option.bind_some]
      have hmay : (if rightS s = true then some ((want, s, n), script, l, (i : Int), (-1 : Int), (addS l s n).1, (addS l s n).2, decide (n ≤ 65535)) else some ((want, s, n), script, l, (i : Int), (-1 : Int), (addS l s n).1, (addS l s n).2, false))
          = some ((want, s, n), script, l, (i : Int), (-1 : Int), (addS l s n).1, (addS l s n).2, rightS s && decide (n ≤ 65535)) := by
        cases rightS s <;> rfl
      rw [hmay, Option.bind_some]
      simp only
      rw [if_pos (by rfl)]
      have hll := h.perm.length_eq
      by_cases hm : (rightS s && decide (n ≤ 65535)) = true
      · rw [if_pos hm]
        simp only [Bool.and_eq_true, decide_eq_true_eq] at hm
        by_cases h5 : want.length < 160
        · obtain ⟨a1, a2⟩ := h.add (by omega) hm.2 hm.1 h4 h5
          rw [a1]
          refine ⟨_, _, a2, ?_⟩
          simp only
          rw [if_neg (by simp; omega), Option.bind_some]
          simp only
          rw [if_pos (by decide), if_pos (room (by decide) (by simp; omega)), hw]
        · have ha : addS l s n = ([], 12) := by
            rw [hm.1, Bool.true_and] at hla
            unfold addS
            rw [h.right, hm.1, hla, if_pos (by simp; omega), if_pos rfl, if_neg (by simp), if_pos (by omega)]
          rw [ha]
          refine ⟨want, l, h, ?_⟩
          simp only
          rw [if_neg (by simp; omega), Option.bind_some]
          simp only
          rw [if_neg (by decide), hw]
      · rw [if_neg hm]
        have ha : ((addS l s n).2 == 0) = false := by
          unfold addS
          by_cases c1 : (rightR l && decide (n ≥ 1) && decide (n ≤ 65535)) = true
          · rw [if_pos c1]
            simp only [Bool.and_eq_true] at c1
            have : rightS s = false := by
              cases hr : rightS s with
              | false => rfl
              | true => exact absurd (by rw [hr, c1.2]; rfl) hm
            rw [if_neg (by simp [this])]
            rfl
          · rw [if_neg c1]
            rfl
        refine ⟨want, l, h, ?_⟩
        rw [ha, if_neg (by decide), Option.bind_some]
        simp only
        rw [ha, if_neg (by decide), hw]
  · -- wanted
    rw [q1]
    unfold nm at q2
    rw [beq_iff_eq] at q2
    obtain ⟨f1, f2, f3⟩ := h.finds (getD_mem q0)
    have hdrop := h.drop q0
    rw [q2] at f1 f2 f3 hdrop
    by_cases hn : n < 1
    · rw [if_pos (by simpa using hn), Drop_is l s (by omega), Option.bind_some]
      have hd : dropS l s = (l.set (l.findIdx (nm s)) e0, (want.getD j e0).2, 0) := by unfold dropS; rw [h.right, f1, f2, f3]; rfl
      rw [hd]
      refine ⟨_, _, hdrop, ?_⟩
      simp only
      have hdec : decide ((j : Int) ≥ 0) = true := by simp
      rw [hdec, if_pos (by decide), if_pos (by decide), if_pos (by omega), getD_nat, if_neg (by simp [e0]), Option.bind_some]
      simp only
      have hwj := wrap_succ (n := j) (by omega)
      rw [if_pos (by decide), if_pos (by omega), hwj, Int.toNat_natCast, Int.toNat_natCast, if_pos (room (by decide) (by simp; omega)), if_pos (by omega), if_pos (room (by decide) (by simp; omega)), List.nil_append, hw]
    · rw [if_neg (by simpa using hn), Add_is l s n (by omega), Option.bind_some, refRight06_is s hxl, Option.bind_some]
      have hmay : (if rightS s = true then some ((want, s, n), script, l, (i : Int), (j : Int), (addS l s n).1, (addS l s n).2, decide (n ≤ 65535)) else some ((want, s, n), script, l, (i : Int), (j : Int), (addS l s n).1, (addS l s n).2, false))
          = some ((want, s, n), script, l, (i : Int), (j : Int), (addS l s n).1, (addS l s n).2, rightS s && decide (n ≤ 65535)) := by
        cases rightS s <;> rfl
      rw [hmay, Option.bind_some]
      simp only
      rw [if_neg (by simp)]
      have ha : ((addS l s n).2 == 0) = false := by
        unfold addS
        rw [f1, f2]
        split <;> rfl
      refine ⟨want, l, h, ?_⟩
      rw [ha, if_neg (by decide), Option.bind_some]
      simp only
      rw [ha, if_neg (by decide), hw]

theorem play_loop (script : List E) (hsl : script.length ≤ 200) (hnm : ∀ x ∈ script, x.1.length ≤ 4611686018427387904) : ∀ (m i : Nat) (want l : List E), i + m = script.length → Holds l want →
    ∃ want2 l2, Holds l2 want2 ∧ loopO wainwrightlaw07_RollsPlay.l1 (want, script, l, (i : Int)) = some (.inl (want2, l2))
  | 0, i, want, l, e, h => by
    refine ⟨want, l, h, loopO_inr ?_⟩
    unfold wainwrightlaw07_RollsPlay.l1
    simp only
    rw [if_neg (by simp; omega)]
  | m + 1, i, want, l, e, h => by
    obtain ⟨want1, l1, h1, e1⟩ := play_step script want l i (by omega) hsl hnm h
    obtain ⟨want2, l2, h2, e2⟩ := play_loop script hsl hnm m (i + 1) want1 l1 (by omega) h1
    exact ⟨want2, l2, h2, by rw [loopO_inl e1, e2]⟩

theorem wainwrightlaw07_RollsPlay_row (x0 : List E) (w0 : wfD (.sl (.st (.pair .str I))) x0)
    (hb : bulk (.sl (.st (.pair .str I))) x0 ≤ 1048576) : wainwrightlaw07_RollsPlay x0 = some true := by
  have hnm := early_names (l := x0) (by omega)
  unfold wainwrightlaw07_RollsPlay
  rw [lives_is, Option.bind_some, if_neg (by simp), early_is, Option.bind_some]
  have hlen : (x0.take 200).length ≤ 200 := by simp; omega
  generalize x0.take 200 = script at hnm hlen
  obtain ⟨want, l, h, e⟩ := play_loop script hlen hnm script.length 0 [] [] (by omega) ⟨rfl, by simp, (fun x hx => by cases hx), List.Perm.refl _, List.nodup_nil, by simp⟩
  have hll := h.perm.length_eq
  have hl := h.len
  have hm := h.most
  rw [show (([] : List E), script, ([] : List E), (0 : Int)) = ([], script, [], ((0 : Nat) : Int)) from rfl, e, Option.bind_some]
  simp only
  rw [Live_is l (by omega), Option.bind_some, if_pos (by rw [hll]; simp), Right_is l (by omega), Option.bind_some, h.right, if_neg (by simp)]
  have := loop_run (f := wainwrightlaw07_RollsPlay.l3) (fun k => (want, l, (k : Int))) (n := want.length) (r := .inl ()) (fun k hk => by
    unfold wainwrightlaw07_RollsPlay.l3
    simp only
    obtain ⟨f1, f2, f3⟩ := h.finds (getD_mem hk)
    rw [if_pos (by simpa using hk), if_pos (by omega), getD_nat, show (([], 0) : E) = e0 from rfl, Find_is l _ (by omega), Option.bind_some]
    have hfs : findS l (want.getD k e0).1 = ((want.getD k e0).2, true) := by unfold findS; rw [f1, f2, f3]; rfl
    rw [hfs]
    dsimp only
    rw [if_pos (by rfl), if_pos (by omega), if_neg (by simp), wrap_succ (by omega)]) (by unfold wainwrightlaw07_RollsPlay.l3; simp)
  rw [show (want, l, (0 : Int)) = (want, l, ((0 : Nat) : Int)) from rfl, this, Option.bind_some]
end Go.Proofs.YtnbhmifidhoblaaDoor.Abs
