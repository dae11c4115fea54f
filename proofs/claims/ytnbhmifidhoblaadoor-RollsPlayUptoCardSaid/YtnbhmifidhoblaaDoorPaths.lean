/- paths.Right: a contract by hand. -/
import Derived.Test.YtnbhmifidhoblaaDoorNames
import Derived.Test.YtnbhmifidhoblaaDoorAbsHand
namespace Go.Proofs.YtnbhmifidhoblaaDoor
open Go Go.Proofs Go.RowKit Go.Shelf Go.Lib

def allSigns (s : List UInt8) : Bool := s.all fun b => signsB.data.toList.contains b
def rightS (s : List UInt8) : Bool := !s.isEmpty && !(s == [46]) && !(s == [46, 46]) && decide (s.length ≤ 11) && allSigns s

theorem dropWhile_nil {p : UInt8 → Bool} : ∀ (l : List UInt8), l.dropWhile p = [] ↔ l.all p = true
  | [] => by simp
  | a :: l => by
    rw [List.dropWhile_cons, List.all_cons]
    cases p a <;> simp [dropWhile_nil l]

theorem trimS_nil (l cs : List UInt8) : Lib.trimS l cs = [] ↔ l.all (fun b => cs.contains b) = true := by
  unfold Lib.trimS Lib.trimLeftS Lib.trimRightS
  rw [dropWhile_nil]
  constructor
  · intro h
    have h1 : ∀ x ∈ (l.reverse.dropWhile (cs.contains ·)), cs.contains x = true := fun x hx => by
      have := List.all_eq_true.1 h x (by simpa using hx)
      exact this
    have h2 : l.reverse.dropWhile (cs.contains ·) = [] := by
      cases hd : l.reverse.dropWhile (cs.contains ·) with
      | nil => rfl
      | cons a t =>
        have h3 := List.head_dropWhile_not (cs.contains ·) (l := l.reverse) (by rw [hd]; simp)
        have h4 := h1 a (by rw [hd]; simp)
        simp only [hd, List.head_cons] at h3
        rw [h3] at h4; cases h4
    rw [dropWhile_nil] at h2
    simpa using h2
  · intro h
    have h2 : l.reverse.dropWhile (cs.contains ·) = [] := by
      rw [dropWhile_nil]; simpa using h
    rw [h2]; rfl

set_option maxHeartbeats 8000000 in
set_option maxRecDepth 1000000 in
theorem right_at (s : ByteArray) (w : World) :
    Calls Tryd.prog 29 #[.string s] w fun e w' => e = .returned (.bool (rightS s.data.toList)) ∧ Below w.heap.size w w' := by
  have e49 : ∀ args w, (callFunc 49 args).run Tryd.prog w = .ok (.enter 49 args) w := enters_of Tryd.func49 (by kernel_rfl) rfl
  have e50 : ∀ args w, (callFunc 50 args).run Tryd.prog w = .ok (.enter 50 args) w := enters_of Tryd.func50 (by kernel_rfl) rfl
  go_enter Tryd.func29, Tryd.ntmps29
  obtain ⟨T, hTE, hT⟩ : ∃ T : List UInt8, T.isEmpty = allSigns s.data.toList ∧ (0 < s.size → s.size ≤ 9223372036854775807 → Calls Tryd.prog 49 #[.string s, .string signsB] w fun e w' => e = .returned (.string ⟨T.toArray⟩) ∧ Below w.heap.size w w') := by
    refine ⟨Lib.trimS s.data.toList signsB.data.toList, ?_, fun h0 hs => (trim_at s w h0 hs).mono ?_⟩
    · have := trimS_nil s.data.toList signsB.data.toList
      change _ ↔ allSigns s.data.toList = true at this
      rw [← List.isEmpty_iff] at this
      exact Bool.eq_iff_iff.2 this
    · rintro e w' ⟨rfl, q, rfl⟩
      exact ⟨rfl, below_drewN2 (((Below.refl _ w).alloc (Nat.le_refl _) _).alloc (by show _ ≤ (w.heap.push _).size; rw [Array.size_push]; omega) _) q⟩
  have hC : ∀ W : World, allSigns s.data.toList = true → Calls Tryd.prog 50 #[.string s, .func (.func 51) #[] #[]] W fun e w' => e = .returned (.bool false) ∧ Below W.heap.size W w' := fun W h => containsFunc_at s h W
  have hne : s.data.toList.isEmpty = false → 0 < s.size := fun h => by
    have := Lib.size_eq s
    cases hd : s.data.toList with
    | nil => rw [hd] at h; cases h
    | cons a t => rw [hd, List.length_cons] at this; omega
  have hsz := Lib.size_eq s
  have hLL := Lib.toList_data s
  generalize hA : allSigns s.data.toList = A at hC hTE
  unfold rightS
  rw [hA]
  generalize s.data.toList = L at *
  go_wp2_with (first | (exfalso; simp_all; done) | (go_at_fn 49; refine (hT (hne (by assumption)) (by omega)).mono ?_; rintro e w' ⟨rfl, hB⟩) | (go_at_fn 50; refine (hC _ (by assumption)).mono ?_; rintro e w'' ⟨rfl, hw2⟩))
  all_goals (try go_ret)
  all_goals (try (exfalso; simp_all; done))
  all_goals refine ⟨?_, by first | exact Below.refl _ w | exact hB | exact hB.trans (hw2.mono hB.size)⟩
  all_goals clear hT hC e49 e50 hne hA hLL
  · simp [*]
  · simp [*]
  · simp [*]
  · have : decide (L.length ≤ 11) = true := by rw [decide_eq_true_eq]; omega
    simp [*]
  · have : decide (L.length ≤ 11) = true := by rw [decide_eq_true_eq]; omega
    have : A = false := by simpa using (by assumption : ¬ A = true)
    simp [*]
  · have : decide (L.length ≤ 11) = false := by rw [decide_eq_false_iff_not]; omega
    simp [*]
end Go.Proofs.YtnbhmifidhoblaaDoor

namespace Go.Proofs.YtnbhmifidhoblaaDoor.Abs
open Go Go.Proofs
abbrev I := Ty.int .i64
def paths_Right : List UInt8 → Option Bool := fun s => if s.length ≤ s.length then some (rightS s) else none
theorem paths_Right_eq (s : List UInt8) : paths_Right s = some (rightS s) := if_pos (Nat.le_refl _)
def paths_Right.ins : Spec := ⟨21, 0, [], [0], (.cons (.v .str) .nil)⟩
def paths_Right.outs : List Spec := [⟨21, 0, [], [2], (.cons (.v .bool) .nil)⟩]
noncomputable def paths_Right.c : Callee' := ⟨29, mkFits paths_Right.ins paths_Right.outs, mkFun paths_Right.ins paths_Right.outs paths_Right⟩
theorem paths_Right.quiet : FunQuiet paths_Right.c.F := mkFun_quiet rfl rfl
theorem paths_Right.sound : paths_Right.c.ok Tryd.prog := by
  refine ⟨?_, Tryd.f29, _, Tryd.func29, rfl, by decide⟩
  change FnSound Tryd.prog 29 _
  refine sound_str_bool fun s b w h => ?_
  rw [paths_Right_eq] at h
  cases h
  exact right_at ⟨s.toArray⟩ w
#print axioms paths_Right.sound
end Go.Proofs.YtnbhmifidhoblaaDoor.Abs
