/- Cards: when two are the same, when one may be. Cards: which may be. Cards: what is written. -/
import Derived.Test.YtiodpeekbeahlaaGreatDoorDlM
namespace Go.Proofs.YtiodpeekbeahlaaGreatDoor.Abs
open Go
attribute [-simp] List.getD_eq_getElem?_getD

abbrev Sp := Int × Int × Int
abbrev Card := Int × Int × Int × Int × List Int × Int × Int × List Sp × Int

abbrev Card4 := List Int × Int × Int × List Sp × Int
set_option synthInstance.maxSize 2000 in
set_option synthInstance.maxHeartbeats 400000 in
instance dec4 : DecidableEq Card4 := inferInstance
instance dec9 : DecidableEq Card := @instDecidableEqProd _ _ _ (@instDecidableEqProd _ _ _ (@instDecidableEqProd _ _ _ (@instDecidableEqProd _ _ _ dec4)))

theorem all_of {n : Nat} {f : Nat → Bool} {j : Nat} (h1 : j ≤ n) (h2 : ∀ i, i < j → f i = true) (h3 : j < n → f j = false) : (List.range n).all f = decide (j = n) := by
  by_cases hj : j = n
  · subst hj
    rw [decide_eq_true rfl, List.all_eq_true]
    exact fun i hi => h2 i (List.mem_range.1 hi)
  · rw [decide_eq_false hj, List.all_eq_false]
    exact ⟨j, List.mem_range.2 (by omega), by rw [h3 (by omega)]; simp⟩

theorem getD_get {α : Type} {l : List α} {i : Nat} (h : i < l.length) (d : α) : l.getD i d = l[i] := by simp [List.getD, h]

theorem eq_of_getD {α : Type} (d : α) {a b : List α} (hl : a.length = b.length) (h : ∀ i, i < a.length → a.getD i d = b.getD i d) : a = b := by
  apply List.ext_getElem hl
  intro i h1 h2
  have := h i h1
  rw [getD_get h1, getD_get h2] at this
  exact this

theorem neq_sp (a b : Sp) : (!((a.1 == b.1) && ((a.2.1 == b.2.1) && (a.2.2 == b.2.2)))) = !decide (a = b) := by
  obtain ⟨a1, a2, a3⟩ := a
  obtain ⟨b1, b2, b3⟩ := b
  congr 1
  rw [Bool.eq_iff_iff]
  simp only [Bool.and_eq_true, beq_iff_eq, decide_eq_true_eq, Prod.mk.injEq]

theorem equal_is (a b : List Int) (hl : a.length < 1099511627776) : slices_Equal_int_int (a, b) = some (decide (a = b)) := by
  unfold slices_Equal_int_int
  dsimp only
  by_cases he : a.length = b.length
  · rw [if_neg (by simp [he])]
    obtain ⟨j, _, hj, hb, hs, hrun⟩ := loop_first (f := slices_Equal_int_int.l1) (fun k => (a, b, (a.length : Int), (k : Int))) (fun k => a.getD k 0 != b.getD k 0) (n := a.length)
      (r := fun k => if k < a.length then .inr false else .inl ()) a.length 0 (by omega) (fun k _ hk => by
        unfold slices_Equal_int_int.l1
        dsimp only
        rw [if_pos (by simp; omega), if_pos (by omega), if_pos (by omega), Int.toNat_natCast, if_pos hk, wrap_succ (by omega)]) (by
        unfold slices_Equal_int_int.l1
        dsimp only
        rw [if_neg (by simp), if_neg (by omega)])
    have hrun : loopO slices_Equal_int_int.l1 (a, b, (a.length : Int), 0) = _ := hrun
    rw [hrun]
    by_cases hjl : j < a.length
    · rw [if_pos hjl]
      have h1 := hs hjl
      have : a ≠ b := fun h => by rw [h] at h1; simp at h1
      simp [this]
    · rw [if_neg hjl]
      have : a = b := eq_of_getD 0 he fun i hi => by
        have := hb i (Nat.zero_le _) (by omega)
        simpa using this
      simp [this]
  · rw [if_pos (by simp; omega)]
    have : a ≠ b := fun h => he (by rw [h])
    simp [this]

theorem refSame_is (a b : List Int) (hl : a.length < 1099511627776) : rf01_Same (a, b) = some (decide (a = b)) := by
  unfold rf01_Same
  dsimp only
  by_cases he : a.length = b.length
  · rw [if_neg (by simp [he])]
    obtain ⟨j, _, hj, hb, hs, hrun⟩ := loop_first (f := rf01_Same.l1) (fun k => (a, b, (k : Int))) (fun k => a.getD k 0 != b.getD k 0) (n := a.length)
      (r := fun k => if k < a.length then .inr false else .inl ()) a.length 0 (by omega) (fun k _ hk => by
        unfold rf01_Same.l1
        dsimp only
        rw [if_pos (by simp; omega), if_pos (by omega), if_pos (by omega), Int.toNat_natCast, if_pos hk, wrap_succ (by omega)]) (by
        unfold rf01_Same.l1
        dsimp only
        rw [if_neg (by simp), if_neg (by omega)])
    have hrun : loopO rf01_Same.l1 (a, b, 0) = _ := hrun
    rw [hrun]
    by_cases hjl : j < a.length
    · rw [if_pos hjl]
      have h1 := hs hjl
      have : a ≠ b := fun h => by rw [h] at h1; simp at h1
      simp [this]
    · rw [if_neg hjl]
      have : a = b := eq_of_getD 0 he fun i hi => by
        have := hb i (Nat.zero_le _) (by omega)
        simpa using this
      simp [this]
  · rw [if_pos (by simp; omega)]
    have : a ≠ b := fun h => he (by rw [h])
    simp [this]

theorem span_is (a b : List Sp) (hl : a.length < 1099511627776) : api_Span (a, b) = some (decide (a = b)) := by
  unfold api_Span
  dsimp only
  by_cases he : a.length = b.length
  · rw [if_neg (by simp [he])]
    obtain ⟨j, _, hj, hb, hs, hrun⟩ := loop_first (f := api_Span.l1) (fun k => (a, b, (a.length : Int), (k : Int))) (fun k => !decide (a.getD k (0, 0, 0) = b.getD k (0, 0, 0))) (n := a.length)
      (r := fun k => if k < a.length then .inr false else .inl ()) a.length 0 (by omega) (fun k _ hk => by
        unfold api_Span.l1
        dsimp only
        rw [if_pos (by simp; omega), if_pos (by omega), if_pos (by omega), Int.toNat_natCast, if_pos hk, wrap_succ (by omega), neq_sp (a.getD k (0, 0, 0)) (b.getD k (0, 0, 0))]) (by
        unfold api_Span.l1
        dsimp only
        rw [if_neg (by simp), if_neg (by omega)])
    have hrun : loopO api_Span.l1 (a, b, (a.length : Int), 0) = _ := hrun
    rw [hrun]
    by_cases hjl : j < a.length
    · rw [if_pos hjl]
      have h1 := hs hjl
      have : a ≠ b := fun h => by rw [h] at h1; simp at h1
      simp [this]
    · rw [if_neg hjl]
      have : a = b := eq_of_getD (0, 0, 0) he fun i hi => by
        have := hb i (Nat.zero_le _) (by omega)
        simpa using this
      simp [this]
  · rw [if_pos (by simp; omega)]
    have : a ≠ b := fun h => he (by rw [h])
    simp [this]

theorem refSpan_is (a b : List Sp) (hl : a.length < 1099511627776) : rf04_Same (a, b) = some (decide (a = b)) := by
  unfold rf04_Same
  dsimp only
  by_cases he : a.length = b.length
  · rw [if_neg (by simp [he])]
    obtain ⟨j, _, hj, hb, hs, hrun⟩ := loop_first (f := rf04_Same.l1) (fun k => (a, b, (k : Int))) (fun k => !decide (a.getD k (0, 0, 0) = b.getD k (0, 0, 0))) (n := a.length)
      (r := fun k => if k < a.length then .inr false else .inl ()) a.length 0 (by omega) (fun k _ hk => by
        unfold rf04_Same.l1
        dsimp only
        rw [if_pos (by simp; omega), if_pos (by omega), if_pos (by omega), Int.toNat_natCast, if_pos hk, wrap_succ (by omega), neq_sp (a.getD k (0, 0, 0)) (b.getD k (0, 0, 0))]) (by
        unfold rf04_Same.l1
        dsimp only
        rw [if_neg (by simp), if_neg (by omega)])
    have hrun : loopO rf04_Same.l1 (a, b, 0) = _ := hrun
    rw [hrun]
    by_cases hjl : j < a.length
    · rw [if_pos hjl]
      have h1 := hs hjl
      have : a ≠ b := fun h => by rw [h] at h1; simp at h1
      simp [this]
    · rw [if_neg hjl]
      have : a = b := eq_of_getD (0, 0, 0) he fun i hi => by
        have := hb i (Nat.zero_le _) (by omega)
        simpa using this
      simp [this]
  · rw [if_pos (by simp; omega)]
    have : a ≠ b := fun h => he (by rw [h])
    simp [this]

/-- Not too long for any machine. -/
def lenC (c : Card) : Prop := c.2.2.2.2.1.length < 1099511627776 ∧ c.2.2.2.2.2.2.2.1.length < 1099511627776

theorem same_is (a b : Card) (h : lenC a) : cards_Same (a, b) = some (decide (a = b)) := by
  obtain ⟨a1, a2, a3, a4, a5, a6, a7, a8, a9⟩ := a
  obtain ⟨b1, b2, b3, b4, b5, b6, b7, b8, b9⟩ := b
  obtain ⟨h1, h2⟩ := h
  simp only at h1 h2
  unfold cards_Same
  dsimp only
  rw [equal_is a5 b5 h1]
  simp only [Option.bind_some]
  by_cases q5 : a5 = b5
  · subst q5
    rw [if_pos (by simp), span_is a8 b8 h2]
    simp only [Option.bind_some]
    by_cases q8 : a8 = b8
    · subst q8
      rw [if_neg (by simp)]
      unfold cards_plain
      simp only [Option.bind_some]
      congr 1
      rw [Bool.eq_iff_iff]
      simp only [Bool.and_eq_true, beq_iff_eq, decide_eq_true_eq, Prod.mk.injEq, true_and, and_true]
    · rw [if_pos (by simp [q8])]
      simp [q8]
  · rw [if_neg (by simp [q5])]
    simp [q5]

theorem refCSame_is (a b : Card) (h : lenC a) : rf09_Same (a, b) = some (decide (a = b)) := by
  obtain ⟨a1, a2, a3, a4, a5, a6, a7, a8, a9⟩ := a
  obtain ⟨b1, b2, b3, b4, b5, b6, b7, b8, b9⟩ := b
  obtain ⟨h1, h2⟩ := h
  simp only at h1 h2
  unfold rf09_Same
  dsimp only
  rw [refSame_is a5 b5 h1, refSpan_is a8 b8 h2]
  simp only [Option.bind_some]
  by_cases q1 : a1 = b1 <;> by_cases q2 : a2 = b2 <;> by_cases q3 : a3 = b3 <;> by_cases q4 : a4 = b4 <;> by_cases q5 : a5 = b5 <;> by_cases q6 : a6 = b6 <;> by_cases q7 : a7 = b7 <;> by_cases q8 : a8 = b8 <;> simp [q1, q2, q3, q4, q5, q6, q7, q8] <;> rfl


/-! ### Runs -/

def okS (s : Sp) : Bool := decide (0 ≤ s.1 ∧ 1 ≤ s.2.1 ∧ 1 ≤ s.2.2 ∧ s.2.2 < 65536 ∧ s.1 + s.2.2 ≤ 65536 ∧ s.2.1 + s.2.2 ≤ 65536)
def nextOk (a b : Sp) : Bool := decide (a.1 + a.2.2 ≤ b.1 ∧ ¬ (a.1 + a.2.2 = b.1 ∧ a.2.1 + a.2.2 = b.2.1))
def sp0 : Sp := (0, 0, 0)
def okAt (l : List Sp) (k : Nat) : Bool := okS (l.getD k sp0) && (decide (k = 0) || nextOk (l.getD (k - 1) sp0) (l.getD k sp0))
def rightSp (l : List Sp) : Bool := (List.range l.length).all (okAt l)

theorem okS_bounds {s : Sp} (h : okS s = true) : 0 ≤ s.1 ∧ 1 ≤ s.2.1 ∧ 1 ≤ s.2.2 ∧ s.2.2 < 65536 ∧ s.1 + s.2.2 ≤ 65536 ∧ s.2.1 + s.2.2 ≤ 65536 := by
  simpa [okS] using h

theorem odd_sp (s : Sp) : spans_odd s = some (!okS s) := by
  obtain ⟨x, y, z⟩ := s
  unfold spans_odd okS
  dsimp only
  by_cases q1 : x < 0
  · rw [if_neg (by simpa using q1)]
    have : ¬ (0 ≤ x ∧ 1 ≤ y ∧ 1 ≤ z ∧ z < 65536 ∧ x + z ≤ 65536 ∧ y + z ≤ 65536) := by omega
    simp [this]
  rw [if_pos (by simpa using q1)]
  by_cases q2 : y < 1
  · rw [if_neg (by simpa using q2)]
    have : ¬ (0 ≤ x ∧ 1 ≤ y ∧ 1 ≤ z ∧ z < 65536 ∧ x + z ≤ 65536 ∧ y + z ≤ 65536) := by omega
    simp [this]
  rw [if_pos (by simpa using q2)]
  by_cases q3 : z < 1
  · rw [if_neg (by simpa using q3)]
    have : ¬ (0 ≤ x ∧ 1 ≤ y ∧ 1 ≤ z ∧ z < 65536 ∧ x + z ≤ 65536 ∧ y + z ≤ 65536) := by omega
    simp [this]
  rw [if_pos (by simpa using q3)]
  by_cases q4 : z ≥ 65536
  · rw [if_neg (by simpa using q4)]
    have : ¬ (0 ≤ x ∧ 1 ≤ y ∧ 1 ≤ z ∧ z < 65536 ∧ x + z ≤ 65536 ∧ y + z ≤ 65536) := by omega
    simp [this]
  rw [if_pos (by simpa using q4), wrap64 (n := 65536 - z) (by omega) (by omega)]
  by_cases q5 : x > 65536 - z
  · rw [if_neg (by simpa using q5)]
    have : ¬ (0 ≤ x ∧ 1 ≤ y ∧ 1 ≤ z ∧ z < 65536 ∧ x + z ≤ 65536 ∧ y + z ≤ 65536) := by omega
    simp [this]
  rw [if_pos (by simpa using q5)]
  congr 1
  rw [Bool.eq_iff_iff]
  simp only [decide_eq_true_eq, Bool.not_eq_true', decide_eq_false_iff_not]
  omega

theorem joins_sp (a b : Sp) (ha : okS a = true) : spans_joins (a, b) = some (decide (a.1 + a.2.2 = b.1 ∧ a.2.1 + a.2.2 = b.2.1)) := by
  have := okS_bounds ha
  obtain ⟨x, y, z⟩ := a
  obtain ⟨u, v, w⟩ := b
  simp only at this
  unfold spans_joins
  dsimp only
  rw [wrap64 (n := x + z) (by omega) (by omega), wrap64 (n := y + z) (by omega) (by omega)]
  by_cases q : x + z = u
  · rw [if_pos (by simpa using q)]
    congr 1
    rw [Bool.eq_iff_iff]
    simp [q]
  · rw [if_neg (by simpa using q)]
    simp [q]

theorem rightSp_is (l : List Sp) (hl : l.length < 1099511627776) : spans_Right l = some (rightSp l) := by
  obtain ⟨j, _, hj, hb, hs, hrun⟩ := loop_first' (f := spans_Right.l1) (fun k => (l, l, (l.length : Int), (k : Int))) (fun k => !okAt l k) (n := l.length)
    (r := fun k => if k < l.length then .inr false else .inl ()) l.length 0 (by omega) (fun k _ hk hpre => by
      unfold spans_Right.l1
      dsimp only
      rw [if_pos (by simp; omega), if_pos (by omega), Int.toNat_natCast]
      rw [show ((0, 0, 0) : Sp) = sp0 from rfl, odd_sp]
      simp only [Option.bind_some, hk, if_true]
      cases q1 : okS (l.getD k sp0) with
      | false =>
        rw [if_neg (by simp), if_pos (by simp [okAt, q1])]
      | true =>
        rw [if_pos (by simp)]
        by_cases q2 : k = 0
        · subst q2
          rw [if_neg (by simp), if_neg (by simp only [okAt, q1]; simp)]
          rfl
        · have hpk : okS (l.getD (k - 1) sp0) = true := by
            have := hpre (k - 1) (by omega) (by omega)
            simp only [okAt, Bool.not_eq_false', Bool.and_eq_true] at this
            exact this.1
          have e1 : IntKind.i64.wrap ((k : Int) - 1) = ((k - 1 : Nat) : Int) := by rw [wrap64 (by omega) (by omega)]; omega
          rw [if_pos (by simp; omega), e1, if_pos (by omega), if_pos (by omega), Int.toNat_natCast]
          rw [joins_sp _ _ hpk]
          have hb0 := okS_bounds hpk
          have hst : okAt l k = nextOk (l.getD (k - 1) sp0) (l.getD k sp0) := by simp [okAt, q1, q2]
          rw [hst]
          rw [Option.bind_some]
          generalize l.getD (k - 1) sp0 = a at *
          generalize l.getD k sp0 = b at *
          rw [wrap64 (n := a.1 + a.2.2) (by omega) (by omega)]
          by_cases q3 : b.1 < a.1 + a.2.2
          · rw [if_neg (by simpa using q3), if_pos]
            simp only [nextOk, Bool.not_eq_true', decide_eq_false_iff_not]
            omega
          · rw [if_pos (by simpa using q3), if_pos (by omega)]
            by_cases q4 : a.1 + a.2.2 = b.1 ∧ a.2.1 + a.2.2 = b.2.1
            · rw [if_pos (by simpa using q4), if_pos]
              simp only [nextOk, Bool.not_eq_true', decide_eq_false_iff_not]
              exact fun h => h.2 q4
            · rw [if_neg (by simpa using q4), if_neg, wrap_succ (by omega)]
              simp only [nextOk, Bool.not_eq_true', decide_eq_false_iff_not, Classical.not_not]
              exact ⟨by omega, q4⟩) (by
      unfold spans_Right.l1
      dsimp only
      rw [if_neg (by simp)]
      simp)
  unfold spans_Right
  rw [show (0 : Int) = ((0 : Nat) : Int) from rfl, hrun]
  rw [rightSp, all_of hj (fun i hi => by simpa using hb i (Nat.zero_le _) hi) (fun h => by simpa using hs h)]
  by_cases hjl : j < l.length
  · simp [hjl, show j ≠ l.length by omega]
  · simp [hjl, show j = l.length by omega]

theorem refRightSp_is (l : List Sp) (hl : l.length < 1099511627776) : rf04_Right l = some (rightSp l) := by
  obtain ⟨j, _, hj, hb, hs, hrun⟩ := loop_first' (f := rf04_Right.l1) (fun k => (l, (k : Int))) (fun k => !okAt l k) (n := l.length)
    (r := fun k => if k < l.length then .inr false else .inl ()) l.length 0 (by omega) (fun k _ hk hpre => by
      unfold rf04_Right.l1
      dsimp only
      rw [if_pos (by simp; omega), if_pos (by omega), Int.toNat_natCast]
      simp only [hk, if_true]
      rw [show ((0, 0, 0) : Sp) = sp0 from rfl]
      by_cases q1 : okS (l.getD k sp0) = true
      · have hs := okS_bounds q1
        rw [if_pos (by simp; omega), if_pos (by simp; omega), if_pos (by simp; omega), if_pos (by simp; omega), if_pos (by simp; omega), if_pos (by simp; omega), wrap64 (by omega) (by omega), if_pos (by simp; omega), wrap64 (by omega) (by omega), if_neg (by simp; omega)]
        by_cases q2 : k = 0
        · subst q2
          rw [if_pos (by simp), if_neg (by simp only [okAt, q1]; simp)]
          rfl
        · have hpk : okS (l.getD (k - 1) sp0) = true := by
            have := hpre (k - 1) (by omega) (by omega)
            simp only [okAt, Bool.not_eq_false', Bool.and_eq_true] at this
            exact this.1
          have hb0 := okS_bounds hpk
          have e1 : IntKind.i64.wrap ((k : Int) - 1) = ((k - 1 : Nat) : Int) := by rw [wrap64 (by omega) (by omega)]; omega
          rw [if_neg (by simp; omega), e1, if_pos (by omega), Int.toNat_natCast]
          have hst : okAt l k = nextOk (l.getD (k - 1) sp0) (l.getD k sp0) := by simp [okAt, q1, q2]
          rw [hst]
          generalize l.getD (k - 1) sp0 = a at *
          generalize l.getD k sp0 = b at *
          rw [wrap64 (n := a.1 + a.2.2) (by omega) (by omega), wrap64 (n := a.2.1 + a.2.2) (by omega) (by omega)]
          by_cases q3 : b.1 < a.1 + a.2.2
          · rw [if_neg (by simpa using q3), if_pos]
            simp only [nextOk, Bool.not_eq_true', decide_eq_false_iff_not]
            omega
          · rw [if_pos (by simpa using q3), wrap_succ (by omega)]
            by_cases q4 : b.1 = a.1 + a.2.2
            · rw [if_pos (by simpa using q4)]
              by_cases q5 : b.2.1 = a.2.1 + a.2.2
              · rw [if_pos (by simpa using q5), if_pos]
                simp only [nextOk, Bool.not_eq_true', decide_eq_false_iff_not]
                omega
              · rw [if_neg (by simpa using q5), if_neg]
                simp only [nextOk, Bool.not_eq_true', decide_eq_false_iff_not, Classical.not_not]
                omega
            · rw [if_neg (by simpa using q4), if_neg]
              simp only [nextOk, Bool.not_eq_true', decide_eq_false_iff_not, Classical.not_not]
              omega
      · have hst : (!okAt l k) = true := by simp [okAt, q1]
        rw [if_pos hst]
        generalize l.getD k sp0 = b at *
        have hn : ¬ (0 ≤ b.1 ∧ 1 ≤ b.2.1 ∧ 1 ≤ b.2.2 ∧ b.2.2 < 65536 ∧ b.1 + b.2.2 ≤ 65536 ∧ b.2.1 + b.2.2 ≤ 65536) := by simpa [okS] using q1
        by_cases p1 : b.1 < 0
        · rw [if_neg (by simpa using p1)]
        rw [if_pos (by simpa using p1)]
        by_cases p2 : b.1 ≥ 65536
        · rw [if_neg (by simpa using p2)]
        rw [if_pos (by simpa using p2)]
        by_cases p3 : b.2.1 < 1
        · rw [if_neg (by simpa using p3)]
        rw [if_pos (by simpa using p3)]
        by_cases p4 : b.2.1 ≥ 65536
        · rw [if_neg (by simpa using p4)]
        rw [if_pos (by simpa using p4)]
        by_cases p5 : b.2.2 < 1
        · rw [if_neg (by simpa using p5)]
        rw [if_pos (by simpa using p5)]
        by_cases p6 : b.2.2 ≥ 65536
        · rw [if_neg (by simpa using p6)]
        rw [if_pos (by simpa using p6), wrap64 (by omega) (by omega)]
        by_cases p7 : b.1 + b.2.2 > 65536
        · rw [if_neg (by simpa using p7)]
        rw [if_pos (by simpa using p7), wrap64 (by omega) (by omega), if_pos (by simp; omega)]) (by
      unfold rf04_Right.l1
      dsimp only
      rw [if_neg (by simp)]
      simp)
  unfold rf04_Right
  rw [show (0 : Int) = ((0 : Nat) : Int) from rfl, hrun]
  rw [rightSp, all_of hj (fun i hi => by simpa using hb i (Nat.zero_le _) hi) (fun h => by simpa using hs h)]
  by_cases hjl : j < l.length
  · simp [hjl, show j ≠ l.length by omega]
  · simp [hjl, show j = l.length by omega]

end Go.Proofs.YtiodpeekbeahlaaGreatDoor.Abs

namespace Go.Proofs.YtiodpeekbeahlaaGreatDoor.Abs
open Go
attribute [-simp] List.getD_eq_getElem?_getD

def smallI (n : Int) : Bool := decide (0 ≤ n ∧ n ≤ 65535)
def zeroC : Card := (0, 0, 0, 0, [], 0, 0, [], 0)

theorem cards_odd_is (n : Int) : cards_odd n = some (!smallI n) := by
  unfold cards_odd smallI
  by_cases h : n < 0
  · rw [if_neg (by simpa using h)]
    simp [show ¬ 0 ≤ n by omega]
  · rw [if_pos (by simpa using h)]
    congr 1
    rw [Bool.eq_iff_iff]
    simp; omega

theorem refSmall_is (n : Int) : rf09_small n = some (smallI n) := by
  unfold rf09_small smallI
  by_cases h : n ≥ 0
  · rw [if_pos (by simpa using h)]
    simp [show 0 ≤ n from h]
  · rw [if_neg (by simpa using h)]
    simp [show ¬ 0 ≤ n from h]

theorem contains_is (l : List Int) (hl : l.length < 1099511627776) : slices_ContainsFunc_int_int l = some (!l.all smallI) := by
  obtain ⟨j, _, hj, hb, hs, hrun⟩ := loop_first (f := slices_IndexFunc_int_int.l1) (fun k => (l, (l.length : Int), (k : Int))) (fun k => !smallI (l.getD k 0)) (n := l.length)
    (r := fun k => if k < l.length then .inr (k : Int) else .inl ()) l.length 0 (by omega) (fun k _ hk => by
      unfold slices_IndexFunc_int_int.l1
      dsimp only
      rw [if_pos (by simp; omega), if_pos (by omega), Int.toNat_natCast, cards_odd_is, Option.bind_some, if_pos hk, wrap_succ (by omega)]) (by
      unfold slices_IndexFunc_int_int.l1
      dsimp only
      rw [if_neg (by simp), if_neg (by omega)])
  have hrun : loopO slices_IndexFunc_int_int.l1 (l, (l.length : Int), 0) = _ := hrun
  unfold slices_ContainsFunc_int_int slices_IndexFunc_int_int
  rw [hrun]
  by_cases hjl : j < l.length
  · rw [if_pos hjl]
    have h1 := hs hjl
    have : l.all smallI = false := by
      rw [List.all_eq_false]
      refine ⟨l[j], List.getElem_mem hjl, ?_⟩
      rw [getD_get hjl] at h1
      simpa using h1
    rw [this]
    simp only [Option.bind_some]
    simp
  · rw [if_neg hjl]
    have : l.all smallI = true := by
      rw [List.all_eq_true]
      intro x hx
      obtain ⟨i, hi, rfl⟩ := List.getElem_of_mem hx
      have := hb i (Nat.zero_le _) (by omega)
      rw [getD_get hi] at this
      simpa using this
    rw [this]
    rfl

theorem grow_is (n : Nat) (h : n < 1099511627776) : slices_Grow_int_int_1 (n : Int) = some [] := by
  have e0 : IntKind.i64.wrap (0 - 0) = 0 := by decide
  unfold slices_Grow_int_int_1
  rw [e0, Int.sub_zero, wrap_nat (by omega), if_neg (by simp)]
  by_cases hn : (n : Int) > 0
  · rw [if_pos (by simpa using hn), if_pos (by omega), if_pos ⟨by omega, by omega, by decide, by simp; omega⟩, if_pos (by omega)]
    simp
  · rw [if_neg (by simpa using hn)]

theorem concat_is (a b : List Int) (ha : a.length < 1099511627) (hb : b.length < 1099511627) : slices_Concat_int_int [a, b] = some (a ++ b) := by
  have h1 := loop_run (f := slices_Concat_int_int.l1) (fun i => ([a, b], (((([a, b].take i).map List.length).sum : Nat) : Int), [a, b], (2 : Int), (i : Int))) (n := 2) (r := ([a, b], ((a.length + b.length : Nat) : Int))) (fun i hi => by
    have : i = 0 ∨ i = 1 := by omega
    rcases this with rfl | rfl
    · unfold slices_Concat_int_int.l1
      dsimp only
      rw [if_pos (by simp), if_pos (by simp), if_neg]
      · simp [List.getD]
        constructor
        · exact wrap_nat (by omega)
        · decide
      · simp [List.getD]
        rw [wrap_nat (by omega)]; omega
    · unfold slices_Concat_int_int.l1
      dsimp only
      rw [if_pos (by simp), if_pos (by simp), if_neg]
      · simp [List.getD]
        constructor
        · rw [wrap64 (by omega) (by omega)]
        · decide
      · simp [List.getD]
        rw [wrap64 (by omega) (by omega)]; omega) (by
    unfold slices_Concat_int_int.l1
    simp)
  have h2 := loop_run (f := slices_Concat_int_int.l2) (fun i => (([a, b].take i).flatten, [a, b], (2 : Int), (i : Int))) (n := 2) (r := a ++ b) (fun i hi => by
    have : i = 0 ∨ i = 1 := by omega
    rcases this with rfl | rfl
    · unfold slices_Concat_int_int.l2
      dsimp only
      rw [if_pos (by simp), if_pos (by simp), if_pos]
      · simp [List.getD]
        decide
      · exact room (by decide) (by simp [List.getD]; omega)
    · unfold slices_Concat_int_int.l2
      dsimp only
      rw [if_pos (by simp), if_pos (by simp), if_pos]
      · simp [List.getD]
        decide
      · exact room (by decide) (by simp [List.getD]; omega)) (by
    unfold slices_Concat_int_int.l2
    simp)
  have h1 : loopO slices_Concat_int_int.l1 ([a, b], 0, [a, b], 2, 0) = _ := h1
  have h2 : loopO slices_Concat_int_int.l2 ([], [a, b], 2, 0) = _ := h2
  unfold slices_Concat_int_int
  rw [show (([a, b] : List (List Int)).length : Int) = 2 from rfl, h1]
  simp only [Option.bind_some]
  rw [grow_is _ (by omega)]
  simp only [Option.bind_some]
  rw [show (([a, b] : List (List Int)).length : Int) = 2 from rfl, h2]
  rfl

def headC (c : Card) (b : Int) : Bool := decide ((c.2.1 = 1 ∨ c.2.1 = 2) ∧ 1 ≤ c.2.2.1 ∧ c.2.2.1 ≤ 200 ∧ 0 ≤ c.2.2.2.1 ∧ c.2.2.2.1 ≤ b)

theorem head_is (c : Card) (b : Int) (hb : 0 ≤ b ∧ b ≤ 1000) : cards_head (c, b) = some (headC c (128 * b)) := by
  obtain ⟨c1, c2, c3, c4, c5, c6, c7, c8, c9⟩ := c
  unfold cards_head headC
  dsimp only
  have hw := wrap64 (n := 128 * b) (by omega) (by omega)
  have key : ∀ k : Bool, (if k = true then if decide (c3 ≥ 1) = true then if decide (c3 ≤ 200) = true then if decide (c4 ≥ 0) = true then some (decide (c4 ≤ IntKind.i64.wrap (128 * b))) else some false else some false else some false else some false) =
      some (k && decide (1 ≤ c3 ∧ c3 ≤ 200 ∧ 0 ≤ c4 ∧ c4 ≤ 128 * b)) := by
    intro k
    rw [hw]
    cases k
    · simp
    · by_cases p1 : 1 ≤ c3 <;> by_cases p2 : c3 ≤ 200 <;> by_cases p3 : 0 ≤ c4 <;> simp [p1, p2, p3]
  by_cases q : c2 = 1
  · rw [if_neg (by simp [q]), Option.bind_some]
    dsimp only
    rw [key]; simp [q]
  · rw [if_pos (by simpa using q), Option.bind_some]
    dsimp only
    rw [key]
    by_cases q2 : c2 = 2 <;> simp [q, q2]

def rightC (c : Card) : Bool :=
  decide (c = zeroC) || ((c.2.2.2.2.1 ++ [c.2.2.2.2.2.1, c.2.2.2.2.2.2.1, c.2.2.2.2.2.2.2.2]).all smallI &&
    ((c.1 == 1 && (headC c 9728 && decide (c.2.2.2.2.1.length = 4 ∧ c.2.2.2.2.2.2.2.1.length = 0 ∧ c.2.2.2.2.2.2.2.2 = 0))) ||
     (c.1 == 2 && (headC c 15360 && (decide (c.2.2.2.2.2.2.2.1.length ≤ 3) && rightSp c.2.2.2.2.2.2.2.1 && (c.2.2.2.2.2.2.2.2 == 0 || decide (c.2.2.2.2.2.2.2.1.length = 3))) && decide (c.2.2.2.2.1.length = 0 ∧ c.2.2.2.2.2.1 = 0 ∧ c.2.2.2.2.2.2.1 = 0)))))

/-- Not too long for any machine, for sums too. -/
def lenD (c : Card) : Prop := c.2.2.2.2.1.length < 1099511626 ∧ c.2.2.2.2.2.2.2.1.length < 1099511626

theorem lenD.c {c : Card} (h : lenD c) : lenC c := ⟨by have := h.1; omega, by have := h.2; omega⟩

theorem right_is (c : Card) (h : lenD c) : cards_Right c = some (rightC c) := by
  have hs := same_is c zeroC h.c
  obtain ⟨c1, c2, c3, c4, c5, c6, c7, c8, c9⟩ := c
  obtain ⟨h1, h2⟩ := h
  simp only at h1 h2
  unfold cards_Right
  dsimp only
  have hn : cards_none (c1, c2, c3, c4, c5, c6, c7, c8, c9) = some (decide ((c1, c2, c3, c4, c5, c6, c7, c8, c9) = zeroC)) := by
    unfold cards_none
    rw [show ((0, 0, 0, 0, ([] : List Int), 0, 0, ([] : List (Int × Int × Int)), 0) : Card) = zeroC from rfl, hs]
    rfl
  rw [concat_is c5 [c6, c7, c9] (by omega) (by simp), Option.bind_some, hn, Option.bind_some, contains_is _ (by simp; omega), Option.bind_some]
  unfold rightC
  dsimp only
  generalize decide ((c1, c2, c3, c4, c5, c6, c7, c8, c9) = zeroC) = z
  cases z
  case true => simp
  rw [if_neg (by simp), Bool.false_or]
  generalize (c5 ++ [c6, c7, c9]).all smallI = sm
  cases sm
  case false => simp
  rw [if_neg (by simp), Bool.true_and]
  by_cases q1 : c1 = 1
  · rw [if_pos (by simpa using q1), head_is _ 76 (by omega), Option.bind_some]
    have q2 : ¬ c1 = 2 := by omega
    rw [show (128 * 76 : Int) = 9728 from rfl]
    generalize headC _ _ = hd
    subst q1
    cases hd
    · simp
    · rw [if_pos rfl]
      by_cases p1 : c5.length = 4 <;> by_cases p2 : c8.length = 0 <;> by_cases p3 : c9 = 0 <;> simp [p1, p2, p3] <;> omega
  · rw [if_neg (by simpa using q1)]
    by_cases q2 : c1 = 2
    · rw [if_pos (by simpa using q2)]
      subst q2
      have key : ∀ b : Bool, ((cards_head ((2, c2, c3, c4, c5, c6, c7, c8, c9), 120)).bind fun r70 =>
          if r70 = true then if b = true then if ((c5.length : Int) == 0) = true then if (c6 == 0) = true then some (c7 == 0) else some false else some false else some false else some false) =
          some (headC (2, c2, c3, c4, c5, c6, c7, c8, c9) 15360 && b && decide (c5.length = 0 ∧ c6 = 0 ∧ c7 = 0)) := by
        intro b
        rw [head_is _ 120 (by omega), Option.bind_some, show (128 * 120 : Int) = 15360 from rfl]
        generalize headC _ _ = hd
        cases hd
        · simp
        · cases b
          · simp
          · rw [if_pos rfl, if_pos rfl]
            by_cases p1 : c5.length = 0 <;> by_cases p2 : c6 = 0 <;> by_cases p3 : c7 = 0 <;> simp [p1, p2, p3] <;> omega
      rw [show ((2 : Int) == 1) = false from rfl, show ((2 : Int) == 2) = true from rfl, Bool.false_and, Bool.false_or, Bool.true_and]
      by_cases p1 : c8.length ≤ 3
      · rw [if_pos (by simp; omega), rightSp_is c8 (by omega), Option.bind_some]
        cases rightSp c8
        · rw [if_neg (by simp), Option.bind_some]
          dsimp only
          rw [key]; simp
        · rw [if_pos rfl]
          by_cases p2 : c9 = 0
          · rw [if_neg (by simp [p2]), Option.bind_some]
            dsimp only
            rw [key]; simp [p1, p2]
          · rw [if_pos (by simp [p2]), Option.bind_some]
            dsimp only
            rw [key]
            have e : ((c8.length : Int) == 3) = decide (c8.length = 3) := by
              rw [Bool.eq_iff_iff]; simp; omega
            have e9 : (c9 == 0) = false := by simpa using p2
            rw [e, e9]; simp [p1]
      · rw [if_neg (by simp; omega), Option.bind_some]
        dsimp only
        rw [key]; simp [p1]
    · rw [if_neg (by simpa using q2)]
      simp [q1, q2]

end Go.Proofs.YtiodpeekbeahlaaGreatDoor.Abs

namespace Go.Proofs.YtiodpeekbeahlaaGreatDoor.Abs
open Go
set_option linter.unusedVariables false
attribute [-simp] List.getD_eq_getElem?_getD

/-! ### Bytes of values that fit -/

def encT : List Int → List Int → List UInt8
  | w :: ws, v :: vs => u8s (le w.toNat v) ++ encT ws vs
  | _, _ => []

def fitW : List Int → List Int → Bool
  | w :: ws, v :: vs => decide (0 ≤ v ∧ v ≤ lim w) && fitW ws vs
  | [], [] => true
  | _, _ => false

theorem fitW_len : ∀ (ws vs : List Int), fitW ws vs = true → ws.length = vs.length
  | [], [], _ => rfl
  | [], _ :: _, h => by simp [fitW] at h
  | _ :: _, [], h => by simp [fitW] at h
  | w :: ws, v :: vs, h => by
    simp only [fitW, Bool.and_eq_true] at h
    simp [fitW_len ws vs h.2]

theorem enc_fit : ∀ (ws vs : List Int), fitW ws vs = true → ∃ e, enc ws vs = some e ∧ u8s e = encT ws vs
  | [], [], _ => ⟨[], rfl, rfl⟩
  | [], _ :: _, h => by simp [fitW] at h
  | _ :: _, [], h => by simp [fitW] at h
  | w :: ws, v :: vs, h => by
    simp only [fitW, Bool.and_eq_true, decide_eq_true_eq] at h
    obtain ⟨e, h1, h2⟩ := enc_fit ws vs h.2
    refine ⟨le w.toNat v ++ e, ?_, ?_⟩
    · simp only [enc]
      rw [if_neg (by omega), h1]
      rfl
    · rw [u8s_app, h2, encT]

theorem wr_fit (ws vs : List Int) (hok : ws.all okW = true) (h : fitW ws vs = true) : wr ws vs = (encT ws vs, 0) := by
  obtain ⟨e, h1, h2⟩ := enc_fit ws vs h
  unfold wr
  rw [if_pos ⟨hok, fitW_len _ _ h⟩, h1]
  simp only
  rw [h2]

theorem encT_len : ∀ (ws vs : List Int), fitW ws vs = true → (encT ws vs).length = (ws.map Int.toNat).sum
  | [], [], _ => rfl
  | [], _ :: _, h => by simp [fitW] at h
  | _ :: _, [], h => by simp [fitW] at h
  | w :: ws, v :: vs, h => by
    simp only [fitW, Bool.and_eq_true] at h
    simp [encT, u8s_len, le_len, encT_len ws vs h.2]

theorem bytes_is (w : Int) (l : List Int) (hw : okW w = true) (hl : l.length ≤ 1000) (h : fitW (List.replicate l.length w) l = true) :
    rf09_bytes (w, l) = some (encT (List.replicate l.length w) l) := by
  have := loop_run (f := rf09_bytes.l1) (fun i => (List.replicate i w, w, l, (i : Int))) (n := l.length) (r := (List.replicate l.length w, l)) (fun i hi => by
    unfold rf09_bytes.l1
    dsimp only
    rw [if_pos (by simp; omega), if_pos (room (by decide) (by simp; omega)), wrap_succ (by omega), List.replicate_succ']) (by
    unfold rf09_bytes.l1
    dsimp only
    rw [if_neg (by simp)])
  have this : loopO rf09_bytes.l1 ([], w, l, 0) = _ := this
  unfold rf09_bytes
  dsimp only
  rw [this, Option.bind_some]
  dsimp only
  have hok : (List.replicate l.length w).all okW = true := by
    rw [List.all_eq_true]
    intro x hx
    rw [List.eq_of_mem_replicate hx]
    exact hw
  rw [ref_Write_is _ _ (by simp; omega) (by omega), wr_fit _ _ hok h, Option.bind_some]

/-! ### A card's values -/

def ws1 : List Int := [1, 1, 2, 4, 2, 2, 2, 2, 2, 2]
def ws2 : List Int := [1, 1, 2, 4, 1, 2, 2, 2, 2, 2, 2, 2, 2, 2, 2]
def spC (c : Card) (i : Nat) : Sp := c.2.2.2.2.2.2.2.1.getD i sp0
def vs1 (c : Card) : List Int := [c.1, c.2.1, c.2.2.1, c.2.2.2.1] ++ c.2.2.2.2.1 ++ [c.2.2.2.2.2.1, c.2.2.2.2.2.2.1]
def spV (s : Sp) : List Int := [s.1, s.2.1, s.2.2]
def vs2 (c : Card) : List Int := [c.1, c.2.1, c.2.2.1, c.2.2.2.1] ++ [(c.2.2.2.2.2.2.2.1.length : Int)] ++ (List.range 3).flatMap (fun i => spV (spC c i)) ++ [c.2.2.2.2.2.2.2.2]
def bytesC (c : Card) : List UInt8 := if c = zeroC then [] else if c.1 = 1 then encT ws1 (vs1 c) else encT ws2 (vs2 c)
def padC (s : List UInt8) : List UInt8 := s ++ List.replicate (32 - s.length) 0
def wrC (c : Card) : List UInt8 × Int := if rightC c = true then (padC (bytesC c), 0) else ([], 1)

theorem moulds1 : cards_moulds 1 = some (.inr ws1) := by
  unfold cards_moulds
  rw [if_pos (by decide), show ((6 : Int)) = ((6 : Nat) : Int) from rfl, slices_Repeat_int_int.le ([2], ((6 : Nat) : Int)) (List.replicate 6 2) (by kernel_rfl), Option.bind_some, if_pos (room (by decide) (by decide))]
  rfl
theorem moulds2 : cards_moulds 2 = some (.inr ws2) := by
  unfold cards_moulds
  rw [if_neg (by decide), if_pos (by decide), if_pos (room (by decide) (by decide)), slices_Repeat_int_int.le ([2], 10) (List.replicate 10 2) (by kernel_rfl), Option.bind_some, if_pos (room (by decide) (by decide))]
  rfl
theorem moulds0 (f : Int) (h1 : f ≠ 1) (h2 : f ≠ 2) : cards_moulds f = some (.inl ()) := by
  unfold cards_moulds
  rw [if_neg (by simpa using h1), if_neg (by simpa using h2)]

theorem ws1_ok : ws1.all okW = true := by decide
theorem ws2_ok : ws2.all okW = true := by decide

theorem values1 (c : Card) (h : lenD c) (hf : c.1 = 1) : cards_values c = some (vs1 c) := by
  obtain ⟨h1, h2⟩ := h
  unfold cards_values
  rw [if_pos (by simpa using hf), if_pos (room (by decide) (by simp; omega)), if_pos (room (by decide) (by simp; omega))]
  rfl

theorem values2 (c : Card) (hf : c.1 ≠ 1) : cards_values c = some (vs2 c) := by
  obtain ⟨c1, c2, c3, c4, c5, c6, c7, c8, c9⟩ := c
  have hlen : ∀ i, i ≤ 3 → ((List.range i).flatMap (fun i => spV (c8.getD i sp0))).length = 3 * i := fun i _ => by
    induction i with
    | zero => rfl
    | succ i ih => rw [List.range_succ, List.flatMap_append, List.length_append, ih (by omega)]; simp [spV]; omega
  have := loop_run (f := cards_values.l1) (fun i => (((c1, c2, c3, c4, c5, c6, c7, c8, c9), [c1, c2, c3, c4] ++ [(c8.length : Int)] ++ (List.range i).flatMap (fun i => spV (c8.getD i sp0))), (i : Int))) (n := 3)
    (r := ((c1, c2, c3, c4, c5, c6, c7, c8, c9), [c1, c2, c3, c4] ++ [(c8.length : Int)] ++ (List.range 3).flatMap (fun i => spV (c8.getD i sp0)))) (fun i hi => by
    have hl := hlen i (by omega)
    unfold cards_values.l1
    dsimp only
    rw [if_pos (by simp; omega)]
    by_cases hlt : i < c8.length
    · rw [if_pos (by simp; omega), if_pos (by omega), Option.bind_some]
      dsimp only
      rw [if_pos (room (by decide) (by simp [hl]; omega)), wrap_succ (by omega), List.range_succ, List.flatMap_append, List.append_assoc, Int.toNat_natCast, List.flatMap_singleton]
      rfl
    · rw [if_neg (by simp; omega), Option.bind_some]
      dsimp only
      rw [if_pos (room (by decide) (by simp [hl]; omega)), wrap_succ (by omega), List.range_succ, List.flatMap_append, List.append_assoc, List.flatMap_singleton, show c8.getD i sp0 = sp0 by simp [List.getD, hlt]]
      rfl) (by
    unfold cards_values.l1
    dsimp only
    rw [if_neg (by decide)])
  have hl := hlen 3 (by omega)
  have this : loopO cards_values.l1 (((c1, c2, c3, c4, c5, c6, c7, c8, c9), [c1, c2, c3, c4] ++ [(c8.length : Int)]), 0) = _ := this
  unfold cards_values
  dsimp only
  rw [if_neg (by simpa using hf), if_pos (room (by decide) (by simp)), this, Option.bind_some]
  dsimp only
  rw [if_pos (room (by decide) (by simp [hl]))]
  rfl

/-! ### What a right card is -/

theorem sp_bounds {l : List Sp} (h : rightSp l = true) (i : Nat) : 0 ≤ (l.getD i sp0).1 ∧ (l.getD i sp0).1 ≤ 65535 ∧ 0 ≤ (l.getD i sp0).2.1 ∧ (l.getD i sp0).2.1 ≤ 65535 ∧ 0 ≤ (l.getD i sp0).2.2 ∧ (l.getD i sp0).2.2 ≤ 65535 := by
  by_cases hi : i < l.length
  · have := List.all_eq_true.1 h i (List.mem_range.2 hi)
    unfold okAt at this
    rw [Bool.and_eq_true] at this
    have := okS_bounds this.1
    omega
  · have : l.getD i sp0 = sp0 := by simp [List.getD, hi]
    rw [this]
    decide

theorem right_1 {c : Card} (h : rightC c = true) (hz : c ≠ zeroC) (hf : c.1 = 1) : fitW ws1 (vs1 c) = true ∧ ∃ p q r s, c.2.2.2.2.1 = [p, q, r, s] := by
  obtain ⟨c1, c2, c3, c4, c5, c6, c7, c8, c9⟩ := c
  unfold rightC at h
  dsimp only at h hf
  subst hf
  rw [decide_eq_false hz] at h
  simp only [headC, smallI, List.all_append, Bool.false_or, Bool.and_eq_true, Bool.or_eq_true, decide_eq_true_eq, beq_iff_eq] at h
  obtain ⟨⟨hs1, hs2⟩, h⟩ := h
  rcases h with h | h
  · obtain ⟨_, ⟨hk, hc, hc3, hc4, hc5⟩, h5, h8, h9⟩ := h
    match c5, h5 with
    | [p, q, r, s], _ =>
      simp only [List.all_cons, List.all_nil, Bool.and_eq_true, decide_eq_true_eq, smallI] at hs1 hs2
      refine ⟨?_, p, q, r, s, rfl⟩
      simp only [ws1, vs1, List.cons_append, List.nil_append, fitW, lim, Bool.and_eq_true, decide_eq_true_eq]
      have e1 : (1 : Int) = 1 := rfl
      refine ⟨?_, ?_, ?_, ?_, ?_, ?_, ?_, ?_, ?_, ?_, trivial⟩ <;> simp <;> omega
  · exact absurd h.1 (by decide)

theorem right_2 {c : Card} (h : rightC c = true) (hz : c ≠ zeroC) (hf : c.1 ≠ 1) : c.1 = 2 ∧ fitW ws2 (vs2 c) = true ∧ rightSp c.2.2.2.2.2.2.2.1 = true ∧ c.2.2.2.2.2.2.2.1.length ≤ 3 := by
  obtain ⟨c1, c2, c3, c4, c5, c6, c7, c8, c9⟩ := c
  unfold rightC at h
  dsimp only at h hf
  rw [decide_eq_false hz] at h
  simp only [headC, smallI, List.all_append, Bool.false_or, Bool.and_eq_true, Bool.or_eq_true, decide_eq_true_eq, beq_iff_eq] at h
  obtain ⟨⟨hs1, hs2⟩, h⟩ := h
  rcases h with h | h
  · exact absurd h.1 hf
  · obtain ⟨h1, ⟨⟨hk, hc, hc3, hc4, hc5⟩, ⟨h8, hr⟩, h9⟩, h5, h6, h7⟩ := h
    subst h1
    simp only [List.all_cons, List.all_nil, Bool.and_eq_true, decide_eq_true_eq, smallI] at hs2
    refine ⟨rfl, ?_, hr, h8⟩
    have b0 := sp_bounds hr 0
    have b1 := sp_bounds hr 1
    have b2 := sp_bounds hr 2
    have e3 : List.range 3 = [0, 1, 2] := rfl
    simp only [ws2, vs2, spC, e3, List.flatMap_cons, List.flatMap_nil, spV, List.cons_append, List.nil_append, fitW, lim, Bool.and_eq_true, decide_eq_true_eq]
    refine ⟨?_, ?_, ?_, ?_, ?_, ?_, ?_, ?_, ?_, ?_, ?_, ?_, ?_, ?_, ?_, trivial⟩ <;> simp <;> omega

theorem bytesC_len {c : Card} (h : rightC c = true) : (bytesC c).length ≤ 32 := by
  unfold bytesC
  by_cases hz : c = zeroC
  · rw [if_pos hz]; simp
  · rw [if_neg hz]
    by_cases hf : c.1 = 1
    · rw [if_pos hf, encT_len _ _ (right_1 h hz hf).1]; decide
    · rw [if_neg hf, encT_len _ _ (right_2 h hz hf).2.1]; decide

theorem padC_len (s : List UInt8) (h : s.length ≤ 32) : (padC s).length = 32 := by unfold padC; simp; omega
theorem wrC_len {c : Card} (h : rightC c = true) : (wrC c).1.length = 32 := by
  unfold wrC
  rw [if_pos h]
  exact padC_len _ (bytesC_len h)

theorem pad32 (s : Blk) (h : s.length ≤ 32) : mould_Pad (s, 32) = some (padC s, 0) := by
  have hf : mould_fits (s, 32) = some 0 := by
    unfold mould_fits
    simp only
    rw [if_pos (by decide), Option.bind_some]
    simp only
    rw [if_neg (by decide), if_neg (by simp; omega)]
  unfold mould_Pad
  simp only
  rw [hf, Option.bind_some, if_neg (by decide), wrap64 (by omega) (by omega)]
  unfold strings_Repeat
  simp only
  rw [if_pos ⟨by omega, by omega, by simp; omega⟩, Option.bind_some, repL_one, if_pos (by simp; omega), show (32 - (s.length : Int)).toNat = 32 - s.length by omega]
  rfl

theorem cards_Write_is (c : Card) (h : lenD c) : cards_Write c = some (wrC c) := by
  have hr := right_is c h
  have hn : cards_none c = some (decide (c = zeroC)) := by
    have hs := same_is c zeroC h.c
    unfold cards_none
    rw [show ((0, 0, 0, 0, ([] : List Int), 0, 0, ([] : List (Int × Int × Int)), 0) : Card) = zeroC from rfl, hs]
    rfl
  unfold cards_Write wrC
  dsimp only
  rw [hr, Option.bind_some]
  cases hrc : rightC c with
  | false => rw [if_pos (by decide), if_neg (by decide)]
  | true =>
    rw [if_neg (by decide), if_pos rfl, hn, Option.bind_some]
    have hbl := bytesC_len hrc
    by_cases hz : c = zeroC
    · rw [if_pos (by simpa using hz), pad32 [] (by simp), Option.bind_some, bytesC, if_pos hz]
    · rw [if_neg (by simpa using hz)]
      by_cases hf : c.1 = 1
      · have hfit := (right_1 hrc hz hf).1
        have hv : cards_values (c.1, c.2.1, c.2.2.1, c.2.2.2.1, c.2.2.2.2.1, c.2.2.2.2.2.1, c.2.2.2.2.2.2.1, c.2.2.2.2.2.2.2.1, c.2.2.2.2.2.2.2.2) = some (vs1 c) := values1 c h hf
        have hvl := fitW_len _ _ hfit
        rw [hv, hf, moulds1, Option.bind_some]
        dsimp only
        rw [Option.bind_some, mould_Write_is _ _ (by decide) (by rw [← hvl]; decide), wr_fit _ _ ws1_ok hfit, Option.bind_some]
        dsimp only
        have hb : bytesC c = encT ws1 (vs1 c) := by rw [bytesC, if_neg hz, if_pos hf]
        rw [if_neg (by decide), hb, pad32 _ (by rw [← hb]; exact hbl), Option.bind_some]
      · obtain ⟨h2, hfit, _, _⟩ := right_2 hrc hz hf
        have hv : cards_values (c.1, c.2.1, c.2.2.1, c.2.2.2.1, c.2.2.2.2.1, c.2.2.2.2.2.1, c.2.2.2.2.2.2.1, c.2.2.2.2.2.2.2.1, c.2.2.2.2.2.2.2.2) = some (vs2 c) := values2 c hf
        have hvl := fitW_len _ _ hfit
        rw [hv, h2, moulds2, Option.bind_some]
        dsimp only
        rw [Option.bind_some, mould_Write_is _ _ (by decide) (by rw [← hvl]; decide), wr_fit _ _ ws2_ok hfit, Option.bind_some]
        dsimp only
        have hb : bytesC c = encT ws2 (vs2 c) := by rw [bytesC, if_neg hz, if_neg hf]
        rw [if_neg (by decide), hb, pad32 _ (by rw [← hb]; exact hbl), Option.bind_some]

end Go.Proofs.YtiodpeekbeahlaaGreatDoor.Abs
