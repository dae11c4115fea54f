/- Functions that stop after so many rounds: what they say, the true ones say. -/
import Derived.Test.YtlbammfnkphajaaGreatDoorAbsCode
namespace Go.Proofs.YtlbammfnkphajaaGreatDoor.Abs
open Go

def Le {α : Type} (x y : Option α) : Prop := ∀ r, x = some r → y = some r

theorem Le.rfl {α : Type} {x : Option α} : Le x x := fun _ h => h
theorem Le.ite {α : Type} {p : Prop} [Decidable p] {a b c d : Option α} (h1 : Le a c) (h2 : Le b d) : Le (if p then a else b) (if p then c else d) := by
  split
  · exact h1
  · exact h2
theorem Le.pick {α : Type} {p : Bool} {a b c d : Option α} (h1 : Le a c) (h2 : Le b d) : Le (match p with | true => a | false => b) (match p with | true => c | false => d) := by
  cases p
  · exact h2
  · exact h1
theorem Le.bind {α β : Type} {x y : Option α} {f g : α → Option β} (h : Le x y) (k : ∀ a, Le (f a) (g a)) : Le (x.bind f) (y.bind g) := by
  intro r hr
  rw [Option.bind_eq_some_iff] at hr ⊢
  obtain ⟨a, ha, hf⟩ := hr
  exact ⟨a, h a ha, k a r hf⟩
theorem Le.loop {σ τ : Type} {f g : σ → Option (σ ⊕ τ)} {n : Nat} {s : σ} (h : ∀ s, Le (f s) (g s)) : Le (iter f n s) (loopO g s) := by
  intro r hr
  refine loopO_of_iter (n := n) ?_
  induction n generalizing s with
  | zero => cases hr
  | succ n ih =>
    rw [iter] at hr ⊢
    cases hf : f s with
    | none => rw [hf] at hr; cases hr
    | some q =>
      rw [hf] at hr; rw [h s q hf]
      cases q with
      | inl s' => exact ih hr
      | inr q => exact hr
theorem Le.fold {α σ : Type} {f g : α → σ → Option σ} (h : ∀ a s, Le (f a s) (g a s)) : ∀ {l : List α} {s : σ}, Le (foldO f l s) (foldO g l s)
  | [], _ => Le.rfl
  | a :: _, s => Le.bind (h a s) fun _ => Le.fold h
def agreeE {α : Type} [DecidableEq α] (a b : Option α) : Option α := if a = b then a else none
theorem Le.agree {α : Type} [DecidableEq α] {a b c d : Option α} (h1 : Le a c) (h2 : Le b d) : Le (agreeE a b) (agree c d) := by
  intro r hr
  unfold agreeE at hr
  split at hr
  · rename_i e
    have e1 := h1 r hr
    have e2 := h2 r (e ▸ hr)
    unfold Abs.agree
    rw [e1, e2, if_pos (Eq.refl _)]
  · cases hr

def fuel : Nat := 1048576

end Go.Proofs.YtlbammfnkphajaaGreatDoor.Abs
