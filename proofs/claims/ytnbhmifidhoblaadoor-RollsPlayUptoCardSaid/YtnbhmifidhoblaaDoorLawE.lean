/- Rolls: where an entry is added or dropped all others stay. -/
import Derived.Test.YtnbhmifidhoblaaDoorLawD
namespace Go.Proofs.YtnbhmifidhoblaaDoor.Abs
open Go
set_option linter.unusedVariables false
attribute [-simp] List.getD_eq_getElem?_getD

theorem getD_set (l : List E) (k i : Nat) (x : E) (hi : i < l.length) : (l.set k x).getD i e0 = if k = i then x else l.getD i e0 := by
  simp only [List.getD, List.getElem?_set]
  by_cases h : k = i
  · subst h; simp [hi]
  · simp [h]
theorem getD_app (l r : List E) (i : Nat) (hi : i < l.length) : (l ++ r).getD i e0 = l.getD i e0 := by
  simp only [List.getD, List.getElem?_append_left hi]

/-- What an added entry leaves as it was. -/
theorem addS_stays (l : List E) (s : List UInt8) (n : Int) (h : (addS l s n).2 = 0) : l.length ≤ (addS l s n).1.length ∧ (addS l s n).1.length ≤ l.length + 8 ∧
    ∀ i, i < l.length → (addS l s n).1.getD i e0 = l.getD i e0 ∨ ((l.getD i e0).2 = 0 ∧ ((addS l s n).1.getD i e0).1 = s) := by
  unfold addS at h ⊢
  split at h
  · rename_i hr
    rw [if_pos hr]
    split at h
    · rename_i h1; rw [if_pos h1]
      split at h
      · cases h
      · rename_i h2; rw [if_neg h2]
        split at h
        · cases h
        · rename_i h3; rw [if_neg h3]
          by_cases h4 : l.findIdx left < l.length
          · rw [if_pos h4]
            refine ⟨by simp, by simp, fun i hi => ?_⟩
            simp only
            rw [getD_set l _ i _ hi]
            by_cases hk : l.findIdx left = i
            · rw [if_pos hk]
              refine .inr ⟨?_, rfl⟩
              have := findIdx_at h4
              rw [hk] at this
              unfold left at this
              simpa using this
            · rw [if_neg hk]; exact .inl rfl
          · rw [if_neg h4]
            refine ⟨by unfold padS; simp, ?_, fun i hi => .inl ?_⟩
            · unfold rightR at hr
              simp only [Bool.and_eq_true, decide_eq_true_eq] at hr
              have h8 := hr.1.1.1.1.1
              unfold padS
              simp only [List.length_append, List.length_cons, List.length_nil, List.length_replicate]
              omega
            · unfold padS
              simp only
              rw [List.append_assoc, getD_app l _ i hi]
    · cases h
  · cases h

theorem dropS_stays (l : List E) (s : List UInt8) (h : (dropS l s).2.2 = 0) : (dropS l s).1.length = l.length ∧
    ∀ i, i < l.length → (dropS l s).1.getD i e0 = l.getD i e0 ∨ ((l.getD i e0).1 = s ∧ ((dropS l s).1.getD i e0).2 = 0) := by
  unfold dropS at h ⊢
  split at h
  · rename_i hr
    rw [if_pos hr]
    split at h
    · rename_i h1; rw [if_pos h1]
      simp only [Bool.and_eq_true] at h1
      have h4 : l.findIdx (nm s) < l.length := by simpa [has] using h1.2
      refine ⟨by simp, fun i hi => ?_⟩
      simp only
      rw [getD_set l _ i _ hi]
      by_cases hk : l.findIdx (nm s) = i
      · rw [if_pos hk]
        refine .inr ⟨?_, rfl⟩
        have := findIdx_at h4
        rw [hk] at this
        unfold nm at this
        simpa using this
      · rw [if_neg hk]; exact .inl rfl
    · cases h
  · cases h

theorem pair_beq (a b : E) : ((a.1 == b.1) && (a.2 == b.2)) = decide (a = b) := by
  obtain ⟨a1, a2⟩ := a
  obtain ⟨b1, b2⟩ := b
  simp only [Prod.mk.injEq]
  by_cases h1 : a1 = b1 <;> by_cases h2 : a2 = b2 <;> simp [h1, h2]

theorem stay_loop (l a b : List E) (s : List UInt8) (e f : Int) (hl : l.length ≤ 200)
    (ha : e = 0 → l.length ≤ a.length ∧ ∀ i, i < l.length → a.getD i e0 = l.getD i e0 ∨ ((l.getD i e0).2 = 0 ∧ (a.getD i e0).1 = s))
    (hb : f = 0 → b.length = l.length ∧ ∀ i, i < l.length → b.getD i e0 = l.getD i e0 ∨ ((l.getD i e0).1 = s ∧ (b.getD i e0).2 = 0)) :
    loopO wainwrightlaw07_RollsStay.l1 (l, s, a, e, b, f, 0) = some (.inl (l, a, e, b, f)) := by
  refine loop_run (f := wainwrightlaw07_RollsStay.l1) (fun i => (l, s, a, e, b, f, (i : Int))) (n := l.length) (fun i hi => ?_) ?_
  · have hw := wrap_succ (n := i) (by omega)
    have E0 : (([], 0) : E) = e0 := rfl
    unfold wainwrightlaw07_RollsStay.l1
    simp only [getD_nat, E0, pair_beq, hw]
    rw [if_pos (by simpa using hi)]
    by_cases he : e = 0
    · obtain ⟨ha1, ha2⟩ := ha he
      have c1 : (0 : Int) ≤ (i : Int) ∧ (i : Int) < (a.length : Int) := by omega
      have c2 : (0 : Int) ≤ (i : Int) ∧ (i : Int) < (l.length : Int) := by omega
      have s1 : (if (e == 0) = true then if (0 : Int) ≤ (i : Int) ∧ (i : Int) < (a.length : Int) then if (0 : Int) ≤ (i : Int) ∧ (i : Int) < (l.length : Int) then if (!decide (a.getD i e0 = l.getD i e0)) = true then if (0 : Int) ≤ (i : Int) ∧ (i : Int) < (l.length : Int) then if ((l.getD i e0).2 != 0) = false then if (0 : Int) ≤ (i : Int) ∧ (i : Int) < (a.length : Int) then if (!((a.getD i e0).1 == s)) = true then some (Sum.inr false) else some (Sum.inl (l, s, a, e, b, f, (i : Int))) else none else some (Sum.inr false) else none else some (Sum.inl (l, s, a, e, b, f, (i : Int))) else none else none else some (Sum.inl (l, s, a, e, b, f, (i : Int)))) = (some (Sum.inl (l, s, a, e, b, f, (i : Int))) : Option (_ ⊕ Bool)) := by
        rw [if_pos (by simp [he]), if_pos c1, if_pos c2]
        rcases ha2 i hi with h1 | ⟨h1, h2⟩
        · rw [if_neg (by simp only [h1, decide_true]; simp)]
        · by_cases hd : a.getD i e0 = l.getD i e0
          · rw [if_neg (by simp only [hd, decide_true]; simp)]
          · rw [if_pos (by simp only [hd, decide_false]; rfl), if_pos c2, if_pos (by rw [h1]; rfl), if_pos c1, if_neg (by rw [h2]; simp)]
      rw [s1, Option.bind_some]
      by_cases hf : f = 0
      · obtain ⟨hb1, hb2⟩ := hb hf
        have c3 : (0 : Int) ≤ (i : Int) ∧ (i : Int) < (b.length : Int) := by omega
        simp only [getD_nat, E0, pair_beq, hw]
        rw [if_pos (by simp [hf]), if_pos c3, if_pos c2]
        rcases hb2 i hi with h1 | ⟨h1, h2⟩
        · rw [if_neg (by simp only [h1, decide_true]; simp)]
        · by_cases hd : b.getD i e0 = l.getD i e0
          · rw [if_neg (by simp only [hd, decide_true]; simp)]
          · rw [if_pos (by simp only [hd, decide_false]; rfl), if_pos c2, if_pos (by rw [h1]; simp), if_pos c3, if_neg (by rw [h2]; simp)]
      · simp only [hw]
        rw [if_neg (by simp [hf])]
    · rw [if_neg (show ¬ ((e == 0) = true) by simp [he]), Option.bind_some]
      have c2 : (0 : Int) ≤ (i : Int) ∧ (i : Int) < (l.length : Int) := by omega
      by_cases hf : f = 0
      · obtain ⟨hb1, hb2⟩ := hb hf
        have c3 : (0 : Int) ≤ (i : Int) ∧ (i : Int) < (b.length : Int) := by omega
        simp only [getD_nat, E0, pair_beq, hw]
        rw [if_pos (by simp [hf]), if_pos c3, if_pos c2]
        rcases hb2 i hi with h1 | ⟨h1, h2⟩
        · rw [if_neg (by simp only [h1, decide_true]; simp)]
        · by_cases hd : b.getD i e0 = l.getD i e0
          · rw [if_neg (by simp only [hd, decide_true]; simp)]
          · rw [if_pos (by simp only [hd, decide_false]; rfl), if_pos c2, if_pos (by rw [h1]; simp), if_pos c3, if_neg (by rw [h2]; simp)]
      · simp only [hw]
        rw [if_neg (by simp [hf])]
  · unfold wainwrightlaw07_RollsStay.l1
    simp

theorem wainwrightlaw07_RollsStay_row (x0 : List E) (x1 : List UInt8) (x2 : Int) (w0 : wfD (.sl (.st (.pair .str I))) x0) (w1 : wfD .str x1) (w2 : wfD I x2)
    (hb : bulk (.sl (.st (.pair .str I))) x0 + (bulk .str x1 + bulk I x2) ≤ 1048576) : wainwrightlaw07_RollsStay (x0, x1, x2) = some true := by
  unfold wainwrightlaw07_RollsStay
  simp only
  rw [lives_is, Option.bind_some, if_neg (by simp), early_is, Option.bind_some]
  have hlen : (x0.take 200).length ≤ 200 := by simp; omega
  generalize x0.take 200 = l at hlen
  rw [Add_is l x1 x2 (by omega), Option.bind_some, Drop_is l x1 (by omega), Option.bind_some]
  have ha := addS_stays l x1 x2
  have hd := dropS_stays l x1
  generalize addS l x1 x2 = A at ha
  generalize dropS l x1 = D at hd
  obtain ⟨a, e⟩ := A
  obtain ⟨b, n, f⟩ := D
  simp only at ha hd ⊢
  rw [stay_loop l a b x1 e f hlen (fun h => ⟨(ha h).1, (ha h).2.2⟩) hd, Option.bind_some]
  have hw : IntKind.i64.wrap ((l.length : Int) + 8) = (l.length : Int) + 8 := wrap64 (by omega) (by omega)
  simp only [hw]
  by_cases he : e = 0
  · obtain ⟨h1, h2, _⟩ := ha he
    rw [if_pos (by simp [he]), if_pos (by simp; omega), if_pos (by simp; omega)]
    by_cases hf : f = 0
    · rw [if_pos (by simp [hf]), (hd hf).1]; simp
    · rw [if_neg (by simp [hf])]
  · rw [if_neg (by simp [he])]
    by_cases hf : f = 0
    · rw [if_pos (by simp [hf]), (hd hf).1]; simp
    · rw [if_neg (by simp [hf])]
end Go.Proofs.YtnbhmifidhoblaaDoor.Abs
