/- Rolls: what each function says of a row of entries. -/
import Derived.Test.YtnbhmifidhoblaaDoorFns
import Derived.Test.YtnbhmifidhoblaaDoorAbsLoops
import Derived.Test.YtnbhmifidhoblaaDoorLives
namespace Go.Proofs.YtnbhmifidhoblaaDoor.Abs
open Go
set_option linter.unusedVariables false
attribute [-simp] List.getD_eq_getElem?_getD
abbrev E := List UInt8 × Int
def e0 : E := ([], 0)

theorem findIdx_lt {p : E → Bool} {l : List E} {j : Nat} (h : j < l.findIdx p) : p (l.getD j e0) = false := by
  have hl : j < l.length := Nat.lt_of_lt_of_le h List.findIdx_le_length
  rw [getD_lt hl]
  exact List.not_of_lt_findIdx h
theorem findIdx_at {p : E → Bool} {l : List E} (h : l.findIdx p < l.length) : p (l.getD (l.findIdx p) e0) = true := by
  rw [getD_lt h]
  exact List.findIdx_getElem

theorem findIdx_is {p : E → Bool} {l : List E} {j : Nat} (hj : j ≤ l.length) (h1 : ∀ i, i < j → p (l.getD i e0) = false) (h2 : j < l.length → p (l.getD j e0) = true) : l.findIdx p = j := by
  rcases Nat.lt_trichotomy (l.findIdx p) j with h | h | h
  · have := h1 _ h
    rw [findIdx_at (p := p) (l := l) (by omega)] at this
    cases this
  · exact h
  · have := findIdx_lt h
    rw [h2 (Nat.lt_of_lt_of_le h List.findIdx_le_length)] at this
    cases this

/-- A loop over a row that ends at the first entry of a kind. -/
theorem loop_find {σ τ : Type} {f : σ → Option (σ ⊕ τ)} (st : Nat → σ) (p : E → Bool) (l : List E) (ri : Nat → τ) (re : τ)
    (hs : ∀ i, i < l.length → f (st i) = if p (l.getD i e0) = true then some (.inr (ri i)) else some (.inl (st (i + 1)))) (he : f (st l.length) = some (.inr re)) :
    loopO f (st 0) = some (if l.findIdx p < l.length then ri (l.findIdx p) else re) := by
  obtain ⟨j, _, h2, h3, h4, h5⟩ := loop_first (f := f) st (fun i => p (l.getD i e0)) (r := fun i => if i < l.length then ri i else re) (n := l.length) l.length 0 (by omega)
    (fun i _ hi => by rw [hs i hi, if_pos hi]) (by rw [he, if_neg (by omega)])
  rw [findIdx_is h2 (fun i hi => h3 i (by omega) hi) h4, h5]

def oddE (x : E) : Bool := !((x.1 == []) && (x.2 == 0)) && (decide (x.2 < 1) || decide (x.2 > 65535) || !rightS x.1)

theorem odd_is (x : E) : rolls_odd x = some (oddE x) := by
  unfold rolls_odd oddE
  simp only [paths_Right_eq, Option.bind_some]
  generalize ((x.1 == []) && (x.2 == 0)) = a
  cases a <;> cases h1 : decide (x.2 < 1) <;> cases h2 : decide (x.2 > 65535) <;> simp

/-- Where the first is, or -1. -/
def ix (p : E → Bool) (l : List E) : Int := if l.findIdx p < l.length then ((l.findIdx p : Nat) : Int) else -1

theorem ix_odd (l : List E) (h : l.length ≤ 1000) : api_Entry l = some (ix oddE l) := by
  have := loop_find (f := api_Entry.l1) (fun i => (l, (l.length : Int), (i : Int))) oddE l (fun i => .inr (i : Int)) (.inl ()) (fun i hi => by
    unfold api_Entry.l1
    simp only
    rw [if_pos (by simpa using hi), if_pos (by omega), odd_is, Option.bind_some, wrap_succ (by omega), getD_nat]
    rfl) (by unfold api_Entry.l1; simp)
  unfold api_Entry ix
  rw [show ((l, (l.length : Int), (0 : Int))) = (l, (l.length : Int), ((0 : Nat) : Int)) from rfl, this, Option.bind_some]
  split <;> rename_i h1
  · split at h1 <;> simp_all
  · split at h1 <;> simp_all
theorem ix_left (l : List E) (h : l.length ≤ 1000) : api_Entry_3 l = some (ix (fun x => x.2 == 0) l) := by
  have := loop_find (f := api_Entry_3.l1) (fun i => (l, (l.length : Int), (i : Int))) (fun x => x.2 == 0) l (fun i => .inr (i : Int)) (.inl ()) (fun i hi => by
    unfold api_Entry_3.l1 rolls_left
    simp only
    rw [if_pos (by simpa using hi), if_pos (by omega), Option.bind_some, wrap_succ (by omega), getD_nat]
    rfl) (by unfold api_Entry_3.l1; simp)
  unfold api_Entry_3 ix
  rw [show ((l, (l.length : Int), (0 : Int))) = (l, (l.length : Int), ((0 : Nat) : Int)) from rfl, this, Option.bind_some]
  split <;> rename_i h1
  · split at h1 <;> simp_all
  · split at h1 <;> simp_all
theorem ix_name (l : List E) (n : List UInt8) (h : l.length ≤ 1000) : api_Entry_6 (l, n) = some (ix (fun x => x.1 == n) l) := by
  have := loop_find (f := api_Entry_6.l1) (fun i => (l, n, (l.length : Int), (i : Int))) (fun x => x.1 == n) l (fun i => .inr (i : Int)) (.inl ()) (fun i hi => by
    unfold api_Entry_6.l1 rolls_at_1
    simp only
    rw [if_pos (by simpa using hi), if_pos (by omega), Option.bind_some, wrap_succ (by omega), getD_nat]
    rfl) (by unfold api_Entry_6.l1; simp)
  unfold api_Entry_6 ix
  simp only
  rw [show ((l, n, (l.length : Int), (0 : Int))) = (l, n, (l.length : Int), ((0 : Nat) : Int)) from rfl, this, Option.bind_some]
  split <;> rename_i h1
  · split at h1 <;> simp_all
  · split at h1 <;> simp_all

theorem clone_is (l : List E) (h : l.length ≤ 1000) : api_Entry_4 l = some l := by
  unfold api_Entry_4
  have hr : roomOk ((([] : List E)).length + l.length) 24 := room (by decide) (by simp; omega)
  rw [if_pos hr]
  split
  · rename_i he
    rw [List.isEmpty_iff.1 he]
    simp [agree]
  · simp
end Go.Proofs.YtnbhmifidhoblaaDoor.Abs
