/- Rolls: the entries that are left, and whether a roll may be. -/
import Derived.Test.YtnbhmifidhoblaaDoorLawA
namespace Go.Proofs.YtnbhmifidhoblaaDoor.Abs
open Go
set_option linter.unusedVariables false
attribute [-simp] List.getD_eq_getElem?_getD

def keep (x : E) : Bool := !(x.2 == 0)
def live (l : List E) : List E := l.filter keep
theorem live_len (l : List E) : (live l).length ≤ l.length := List.length_filter_le _ _

theorem take_filter_succ (l : List E) {j : Nat} (h : j < l.length) : (l.take (j + 1)).filter keep = (l.take j).filter keep ++ if keep (l.getD j e0) = true then [l.getD j e0] else [] := by
  rw [take_succ_getD h e0, List.filter_append, List.filter_cons, List.filter_nil]

def cnt (l : List E) (j : Nat) : Nat := ((l.take j).filter keep).length
theorem cnt_le (l : List E) (j : Nat) : cnt l j ≤ j := Nat.le_trans (List.length_filter_le _ _) (by simp; omega)
theorem cnt_le' (l : List E) (j : Nat) : cnt l j ≤ l.length := Nat.le_trans (List.length_filter_le _ _) (by simp; omega)
theorem cnt_succ (l : List E) {j : Nat} (h : j < l.length) : cnt l (j + 1) = if keep (l.getD j e0) = true then cnt l j + 1 else cnt l j := by
  unfold cnt
  rw [take_filter_succ l h]
  split <;> simp

/-- A row in the midst of its squeeze. -/
def sq (l : List E) : Nat → List E
  | 0 => l
  | j + 1 => if keep (l.getD j e0) = true then (sq l j).set (cnt l j) (l.getD j e0) else sq l j
theorem sq_len (l : List E) : ∀ j, (sq l j).length = l.length
  | 0 => rfl
  | j + 1 => by
    rw [sq]; split
    · rw [List.length_set, sq_len l j]
    · exact sq_len l j
theorem sq_at (l : List E) : ∀ (j q : Nat), j ≤ q → (sq l j).getD q e0 = l.getD q e0
  | 0, q, _ => rfl
  | j + 1, q, h => by
    have := sq_at l j q (by omega)
    have hc := cnt_le l j
    rw [sq]; split
    · rw [← this]
      simp only [List.getD, List.getElem?_set, show cnt l j ≠ q from by omega, if_false]
    · exact this
theorem sq_take (l : List E) : ∀ (j : Nat), j ≤ l.length → (sq l j).take (cnt l j) = (l.take j).filter keep
  | 0, _ => by simp [sq, cnt]
  | j + 1, h => by
    have ih := sq_take l j (by omega)
    have hc := cnt_le l j
    have hl := sq_len l j
    rw [take_filter_succ l (by omega), cnt_succ l (by omega), sq]
    split
    · rw [take_succ_getD (by rw [List.length_set, hl]; omega) e0, List.take_set_of_le (Nat.le_refl _), ih]
      congr 1
      simp only [List.getD, List.getElem?_set, if_true, hl]
      rw [if_pos (by omega)]
      simp
    · rw [ih, List.append_nil]
theorem sq_first (l : List E) : ∀ (j : Nat), j ≤ l.length → (∀ i, i < j → keep (l.getD i e0) = true) → sq l j = l ∧ cnt l j = j
  | 0, _, _ => ⟨rfl, by simp [cnt]⟩
  | j + 1, h, hk => by
    obtain ⟨h1, h2⟩ := sq_first l j (by omega) fun i hi => hk i (by omega)
    refine ⟨?_, by rw [cnt_succ l (by omega), if_pos (hk j (by omega)), h2]⟩
    rw [sq, if_pos (hk j (by omega)), h1, h2]
    rw [getD_lt (show j < l.length by omega), List.set_getElem_self]

theorem delete_is (l : List E) (h : l.length ≤ 1000) : api_Entry_5 l = some (live l) := by
  unfold api_Entry_5
  rw [ix_left l h, Option.bind_some]
  unfold ix
  by_cases hj : l.findIdx (fun x => x.2 == 0) < l.length
  · rw [if_pos hj]
    generalize hJ : l.findIdx (fun x => x.2 == 0) = j at hj
    have hfst := fun i (hi : i < j) => findIdx_lt (p := fun x => x.2 == 0) (l := l) (j := i) (by omega)
    have hat := findIdx_at (p := fun x => x.2 == 0) (l := l) (by omega)
    rw [hJ] at hat
    obtain ⟨s1, s2⟩ := sq_first l j (by omega) fun i hi => by unfold keep; rw [hfst i hi]; rfl
    have hk0 : keep (l.getD j e0) = false := by unfold keep; rw [hat]; rfl
    have s3 : sq l (j + 1) = l := by rw [sq, if_neg (by rw [hk0]; simp), s1]
    have s4 : cnt l (j + 1) = j := by rw [cnt_succ l hj, if_neg (by rw [hk0]; simp), s2]
    have hloop := loop_from (f := api_Entry_5.l1) (fun q => (sq l q, ((cnt l q : Nat) : Int), (q : Int))) (n := l.length) (r := (sq l l.length, ((cnt l l.length : Nat) : Int))) (l.length - (j + 1)) (j + 1) (by omega)
      (fun q hq1 hq2 => by
        have hc := cnt_le l q
        have hsl := sq_len l q
        have hsa := sq_at l q q (Nat.le_refl _)
        unfold e0 at hsa
        have hks : keep (l.getD q e0) = !((l.getD q ([], 0)).2 == 0) := rfl
        unfold api_Entry_5.l1 rolls_left
        simp only
        rw [hsl, if_pos (by simpa using hq2), if_pos (by omega), Option.bind_some, getD_nat, hsa, cnt_succ l hq2, sq, hks, wrap_succ (n := q) (by omega), wrap_succ (n := cnt l q) (by omega)]
        cases hkb : ((l.getD q ([], 0)).2 == 0)
        · rw [if_pos (by rfl), if_pos (by omega), if_pos (by rfl), if_pos (by rfl)]
          simp [e0]
        · rw [if_neg (by simp), if_neg (by simp), if_neg (by simp)])
      (by unfold api_Entry_5.l1; simp [sq_len])
    rw [if_neg (by simp), wrap_succ (by omega)]
    simp only [s3, s4] at hloop
    rw [hloop, Option.bind_some]
    have hc := cnt_le' l l.length
    have hsl := sq_len l l.length
    have htk := sq_take l l.length (Nat.le_refl _)
    rw [List.take_length] at htk
    simp only
    rw [if_pos (by omega), if_pos (by simp; omega)]
    simp only [List.drop_zero, Int.sub_zero, Int.toNat_natCast, List.append_assoc]
    rw [List.take_append_of_le_length (by simp; omega), List.take_take, Nat.min_self, htk]
    rfl
  · rw [if_neg hj]
    have hJ := List.findIdx_le_length (p := fun x : E => x.2 == 0) (xs := l)
    simp only [beq_self_eq_true, if_true]
    congr 1
    symm
    refine List.filter_eq_self.2 fun x hx => ?_
    obtain ⟨i, hi, rfl⟩ := List.getElem_of_mem hx
    have := findIdx_lt (p := fun x => x.2 == 0) (l := l) (j := i) (by omega)
    rw [getD_lt hi] at this
    unfold keep
    rw [this]; rfl

theorem Live_is (l : List E) (h : l.length ≤ 1000) : rolls_Live l = some (live l) := by
  unfold rolls_Live
  rw [clone_is l h, Option.bind_some, delete_is l h, Option.bind_some]

theorem refLive_is (l : List E) (h : l.length ≤ 1000) : wainwrightref07_Live l = some (live l) := by
  have := loop_run (f := wainwrightref07_Live.l1) (fun i => ((l.take i).filter keep, l, (i : Int))) (r := live l) (n := l.length) (fun i hi => by
    have hc : ((l.take i).filter keep).length ≤ i := cnt_le l i
    have hks : keep (l.getD i e0) = ((l.getD i ([], 0)).2 != 0) := rfl
    unfold wainwrightref07_Live.l1
    simp only
    rw [if_pos (by simpa using hi), if_pos (by omega), getD_nat, wrap_succ (by omega), take_filter_succ l hi, hks]
    cases hkb : ((l.getD i ([], 0)).2 != 0)
    · rw [if_neg (by simp), if_neg (by simp), List.append_nil]
    · rw [if_pos rfl, if_pos (by omega), if_pos (room (by decide) (by simp only [List.length_cons, List.length_nil]; omega)), if_pos rfl]
      rfl) (by unfold wainwrightref07_Live.l1; simp [live])
  unfold wainwrightref07_Live
  rw [show (([] : List E), l, (0 : Int)) = ((l.take 0).filter keep, l, ((0 : Nat) : Int)) by simp, this]
  rfl
end Go.Proofs.YtnbhmifidhoblaaDoor.Abs
