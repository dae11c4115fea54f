/- Small laws of loops and rows, for the plain laws. -/
import Derived.Test.YtlbammfnkphajaaGreatDoorAbsPlain
import Derived.Test.YtlbammfnkphajaaGreatDoorAbsOpen
namespace Go.Proofs.YtlbammfnkphajaaGreatDoor.Abs
open Go

theorem loop_from {σ τ : Type} {f : σ → Option (σ ⊕ τ)} (st : Nat → σ) {r : τ} {n : Nat} : ∀ (m a : Nat), a + m = n → (∀ i, a ≤ i → i < n → f (st i) = some (.inl (st (i + 1)))) → f (st n) = some (.inr r) → loopO f (st a) = some r
  | 0, a, e, _, he => by
    have : a = n := by omega
    subst this
    exact loopO_inr he
  | m + 1, a, e, hs, he => by
    rw [loopO_inl (hs a (Nat.le_refl _) (by omega))]
    exact loop_from st m (a + 1) (by omega) (fun i h1 h2 => hs i (by omega) h2) he

theorem loop_run {σ τ : Type} {f : σ → Option (σ ⊕ τ)} (st : Nat → σ) {r : τ} {n : Nat} (hs : ∀ i, i < n → f (st i) = some (.inl (st (i + 1)))) (he : f (st n) = some (.inr r)) : loopO f (st 0) = some r :=
  loop_from st n 0 (by omega) (fun i _ h => hs i h) he

/-- A loop that ends at the first of its rounds in which it may. -/
theorem loop_first {σ τ : Type} {f : σ → Option (σ ⊕ τ)} (st : Nat → σ) (stop : Nat → Bool) {r : Nat → τ} {n : Nat} : ∀ (m a : Nat), a + m = n → (∀ i, a ≤ i → i < n → f (st i) = if stop i = true then some (.inr (r i)) else some (.inl (st (i + 1)))) → f (st n) = some (.inr (r n)) →
    ∃ j, a ≤ j ∧ j ≤ n ∧ (∀ i, a ≤ i → i < j → stop i = false) ∧ (j < n → stop j = true) ∧ loopO f (st a) = some (r j)
  | 0, a, e, _, he => by
    have : a = n := by omega
    subst this
    exact ⟨a, Nat.le_refl _, Nat.le_refl _, fun i h1 h2 => by omega, fun h => by omega, loopO_inr he⟩
  | m + 1, a, e, hs, he => by
    have h0 := hs a (Nat.le_refl _) (by omega)
    cases hst : stop a with
    | true =>
      rw [hst, if_pos rfl] at h0
      exact ⟨a, Nat.le_refl _, by omega, fun i h1 h2 => by omega, fun _ => hst, loopO_inr h0⟩
    | false =>
      rw [hst] at h0
      obtain ⟨j, h1, h2, h3, h4, h5⟩ := loop_first st stop m (a + 1) (by omega) (fun i h1 h2 => hs i (by omega) h2) he
      refine ⟨j, by omega, h2, fun i hi1 hi2 => ?_, h4, ?_⟩
      · by_cases hia : i = a
        · subst hia; exact hst
        · exact h3 i (by omega) hi2
      · rw [if_neg (by simp)] at h0
        rw [loopO_inl h0]; exact h5

/-- The same, where each round may lean on those ahead of it. -/
theorem loop_first' {σ τ : Type} {f : σ → Option (σ ⊕ τ)} (st : Nat → σ) (stop : Nat → Bool) {r : Nat → τ} {n : Nat} : ∀ (m a : Nat), a + m = n → (∀ i, a ≤ i → i < n → (∀ q, a ≤ q → q < i → stop q = false) → f (st i) = if stop i = true then some (.inr (r i)) else some (.inl (st (i + 1)))) → f (st n) = some (.inr (r n)) →
    ∃ j, a ≤ j ∧ j ≤ n ∧ (∀ i, a ≤ i → i < j → stop i = false) ∧ (j < n → stop j = true) ∧ loopO f (st a) = some (r j)
  | 0, a, e, _, he => by
    have : a = n := by omega
    subst this
    exact ⟨a, Nat.le_refl _, Nat.le_refl _, fun i h1 h2 => by omega, fun h => by omega, loopO_inr he⟩
  | m + 1, a, e, hs, he => by
    have h0 := hs a (Nat.le_refl _) (by omega) (fun q h1 h2 => by omega)
    cases hst : stop a with
    | true =>
      rw [hst, if_pos rfl] at h0
      exact ⟨a, Nat.le_refl _, by omega, fun i h1 h2 => by omega, fun _ => hst, loopO_inr h0⟩
    | false =>
      rw [hst, if_neg (by simp)] at h0
      obtain ⟨j, h1, h2, h3, h4, h5⟩ := loop_first' st stop m (a + 1) (by omega) (fun i h1 h2 h3 => hs i (by omega) h2 fun q q1 q2 => by
        by_cases hqa : q = a
        · subst hqa; exact hst
        · exact h3 q (by omega) q2) he
      refine ⟨j, by omega, h2, fun i hi1 hi2 => ?_, h4, ?_⟩
      · by_cases hia : i = a
        · subst hia; exact hst
        · exact h3 i (by omega) hi2
      · rw [loopO_inl h0]; exact h5

theorem getD_nat {α : Type} (l : List α) (i : Nat) (d : α) : l.getD ((i : Int)).toNat d = l.getD i d := by simp

theorem take_succ_getD {α : Type} {l : List α} {i : Nat} (h : i < l.length) (d : α) : l.take (i + 1) = l.take i ++ [l.getD i d] := by
  rw [List.take_add_one, List.getElem?_eq_getElem h]
  simp [List.getD, h]

theorem wrap_nat {n : Nat} (h : n < 9223372036854775808) : IntKind.i64.wrap (n : Int) = n := wrap64 (by omega) (by omega)
theorem wrap_succ {n : Nat} (h : n < 9223372036854775807) : IntKind.i64.wrap ((n : Int) + 1) = ((n + 1 : Nat) : Int) := by
  rw [wrap64 (by omega) (by omega)]; omega

theorem sum_len {α : Type} (f : α → Nat) (h : ∀ a, 1 ≤ f a) : ∀ (l : List α), l.length ≤ (l.map f).sum
  | [] => by simp
  | a :: l => by
    have := sum_len f h l
    have := h a
    simp; omega

theorem bulk_ints (l : List Int) : l.length < bulk (.sl (.int .i64)) l := by
  have := sum_len (bulk (.int .i64)) (fun a => by simp [bulk]) l
  simp only [bulk] at this ⊢
  omega

theorem bulk_structs (T : Ty) (l : List T.D) : l.length < bulk (.sl (.st T)) l := by
  have := sum_len (bulk (.st T)) (fun a => by simp [bulk]) l
  simp only [bulk] at this ⊢
  omega

end Go.Proofs.YtlbammfnkphajaaGreatDoor.Abs
