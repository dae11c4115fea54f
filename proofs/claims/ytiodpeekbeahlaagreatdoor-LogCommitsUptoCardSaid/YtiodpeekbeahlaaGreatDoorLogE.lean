/- The log: a commit. -/
import Derived.Test.YtiodpeekbeahlaaGreatDoorLogD
namespace Go.Proofs.YtiodpeekbeahlaaGreatDoor.Abs
open Go
set_option linter.unusedVariables false
attribute [-simp] List.getD_eq_getElem?_getD

/-! ### The same blocks, but for the log's -/

def sameS (a b : List Blk) : Prop := a.length = b.length ∧ ∀ i : Nat, i < a.length → ownS (i : Int) = false → a.getD i [] = b.getD i []

theorem sameS.refl (a : List Blk) : sameS a a := ⟨rfl, fun _ _ _ => rfl⟩
theorem sameS.symm {a b : List Blk} (h : sameS a b) : sameS b a := ⟨h.1.symm, fun i hi ho => (h.2 i (by rw [h.1]; exact hi) ho).symm⟩
theorem sameS.trans {a b c : List Blk} (h : sameS a b) (k : sameS b c) : sameS a c := ⟨h.1.trans k.1, fun i hi ho => (h.2 i hi ho).trans (k.2 i (by rw [← h.1]; exact hi) ho)⟩

theorem setB (a : List Blk) (i j : Nat) (b : Blk) : (a.set i b).getD j [] = if i = j ∧ j < a.length then b else a.getD j [] := by
  simp only [List.getD, List.getElem?_set]
  by_cases h : i = j
  · subst h
    by_cases h2 : i < a.length
    · simp [h2]
    · simp [h2]
  · simp [h]

theorem sameS.set {a b : List Blk} (h : sameS a b) (i : Nat) (x : Blk) : sameS (a.set i x) (b.set i x) := by
  refine ⟨by simp [h.1], fun j hj ho => ?_⟩
  rw [List.length_set] at hj
  rw [setB, setB, h.2 j hj ho, h.1]
theorem sameS.own {a b : List Blk} (h : sameS a b) (i : Nat) (x : Blk) (hi : ownS (i : Int) = true) : sameS (a.set i x) b := by
  refine ⟨by simp [h.1], fun j hj ho => ?_⟩
  rw [List.length_set] at hj
  rw [setB, if_neg, h.2 j hj ho]
  rintro ⟨rfl, _⟩
  rw [ho] at hi
  cases hi
theorem sameS.put (c : Ch) : ∀ {a b : List Blk}, sameS a b → sameS (putS a c) (putS b c) := by
  induction c with
  | nil => intro a b h; exact h
  | cons x c ih =>
    intro a b h
    unfold putS at ih ⊢
    rw [List.foldl_cons, List.foldl_cons]
    exact ih (h.set _ _)
theorem sameS.putOwn (c : Ch) : ∀ {a b : List Blk}, sameS a b → (∀ x ∈ c, 0 ≤ x.1 ∧ ownS x.1 = true) → sameS (putS a c) b := by
  induction c with
  | nil => intro a b h _; exact h
  | cons x c ih =>
    intro a b h ho
    unfold putS at ih ⊢
    rw [List.foldl_cons]
    have hx := ho x List.mem_cons_self
    refine ih (h.own _ _ ?_) (fun y hy => ho y (List.mem_cons_of_mem _ hy))
    rw [show ((x.1.toNat : Nat) : Int) = x.1 by omega]
    exact hx.2

theorem refSame_is {a b : List Blk} (h : sameS a b) (hl : a.length ≤ 2000000) : wainwrightref11_Same (a, b) = some true := by
  have hb := h.1
  have := loop_run (f := wainwrightref11_Same.l1) (fun i => (a, b, (i : Int))) (n := a.length) (r := .inl ()) (fun i hi => by
    have hab := h.2 i hi
    unfold wainwrightref11_Same.l1
    simp only
    rw [if_pos (by simpa using hi), own_is, Option.bind_some, wrap_succ (by omega)]
    cases ho : ownS (i : Int) with
    | true => rw [if_neg (by simp)]
    | false =>
      rw [if_pos (by rfl), if_pos (by omega), if_pos (by omega), getD_nat, getD_nat, hab ho, if_neg (by simp)]) (by
    unfold wainwrightref11_Same.l1
    simp)
  unfold wainwrightref11_Same
  simp only
  rw [if_neg (by simp [hb]), show ((a, b, (0 : Int)) : List Blk × List Blk × Int) = (a, b, ((0 : Nat) : Int)) from rfl, this]
  rfl

theorem put_succ (a : List Blk) (c : Ch) (i : Nat) (hi : i < c.length) : putS a (c.take (i + 1)) = (putS a (c.take i)).set (keyAt c i).toNat (c.getD i (0, [])).2 := by
  rw [take_succ_getD hi (0, [])]
  unfold putS
  rw [List.foldl_append]
  rfl

theorem refWith_is (a : List Blk) (c : Ch) (hf : ∀ x ∈ c, 0 ≤ x.1 ∧ x.1 < (a.length : Int)) (hl : a.length ≤ 2000000) (hc : c.length ≤ 2000000) : wainwrightref11_With (a, c) = some (putS a c) := by
  have := loop_run (f := wainwrightref11_With.l1) (fun i => (putS a (c.take i), c, (i : Int))) (n := c.length) (r := putS a c) (fun i hi => by
    have hx := hf (c.getD i (0, [])) (by rw [getD_lt hi]; exact List.getElem_mem hi)
    unfold wainwrightref11_With.l1
    simp only
    rw [if_pos (by simpa using hi), if_pos (by omega), if_pos (by omega), getD_nat, putS_len, if_pos hx, wrap_succ (by omega), put_succ a c i hi]
    rfl) (by
    unfold wainwrightref11_With.l1
    simp)
  unfold wainwrightref11_With
  simp only
  rw [if_pos (room (by decide) (by simp; omega)), List.nil_append, show ((a, c, (0 : Int)) : List Blk × Ch × Int) = (putS a (c.take 0), c, ((0 : Nat) : Int)) from rfl, this]
  rfl

/-! ### Commits -/

theorem numbers_is (c : Ch) (hc : c.length ≤ 2000000) : log_numbers c = some (c.map (·.1)) := by
  have := loop_run (f := log_numbers.l1) (fun i => ((c.take i).map (·.1), c, (c.length : Int), (i : Int))) (n := c.length) (r := c.map (·.1)) (fun i hi => by
    unfold log_numbers.l1
    simp only
    rw [if_pos (by simpa using hi), if_pos (by omega), getD_nat, if_pos (room (by decide) (by simp; omega)), wrap_succ (by omega), take_succ_getD hi (0, []), List.map_append]
    rfl) (by
    unfold log_numbers.l1
    simp)
  unfold log_numbers
  rw [show (([] : List Int), c, (c.length : Int), (0 : Int)) = ((c.take 0).map (·.1), c, (c.length : Int), ((0 : Nat) : Int)) from rfl, this]
  rfl

def loggedS (c : Ch) : Ch := (List.range c.length).map fun (k : Nat) => (2 + (k : Int), (c.getD k (0, [])).2)

theorem logged_len (c : Ch) : (loggedS c).length = c.length := by unfold loggedS; simp

/-- The blocks behind a commit. -/
def commS (xs : List Blk) (c : Ch) : List Blk := (putS (putS (putS xs (loggedS c)) [(1, headS (c.map (·.1)))]) c).set 1 zeroS

theorem comm_len (xs : List Blk) (c : Ch) : (commS xs c).length = xs.length := by
  unfold commS
  rw [List.length_set, putS_len, putS_len, putS_len]
theorem comm_head (xs : List Blk) (c : Ch) (h : 2 ≤ xs.length) : (commS xs c).getD 1 [] = zeroS := by
  unfold commS
  rw [setB, if_pos ⟨rfl, by rw [putS_len, putS_len, putS_len]; omega⟩]
theorem comm_same {xs ys : List Blk} (h : sameS xs ys) (c : Ch) (hc : c.length ≤ 40) : sameS (commS xs c) (putS ys c) := by
  unfold commS
  refine sameS.own (sameS.put _ (sameS.own (sameS.putOwn _ h fun x hx => ?_) 1 _ rfl)) 1 _ rfl
  unfold loggedS at hx
  obtain ⟨k, hk, rfl⟩ := List.mem_map.1 hx
  have := List.mem_range.1 hk
  refine ⟨by simp only; omega, ?_⟩
  unfold ownS
  rw [decide_eq_true_eq]
  simp only
  omega

theorem log_commit {n m : Nat} {k c : Int} {xs : List Blk} (h : Okay n m ((c, -1), xs, [])) (hn : 64 ≤ n) (hm : m + 100 ≤ 100000) (hk : 0 ≤ k ∧ k < 1000000) {ch : Ch} (hc : ch.length ≤ 2000000) :
    log_Log_Commit (((false, k), (c, -1), xs, []), ch) = some (if mayS n ch = 0 ∧ ch ≠ [] then (((false, k + 1), (c + 2 * ch.length + 6, -1), commS xs ch, []), 0) else (((false, k), (c, -1), xs, []), mayS n ch)) ∧
    (mayS n ch = 0 ∧ ch ≠ [] → Okay n (m + 86) ((c + 2 * ch.length + 6, -1), commS xs ch, [])) := by
  have hf := h.firm
  have hr := h.room
  simp only at hf
  unfold log_Log_Commit
  simp only
  rw [may_is _ _ _ hc, Option.bind_some]
  simp only
  rw [hf]
  by_cases h0 : mayS n ch = 0
  · rw [if_pos (by rw [h0]; rfl)]
    cases ch with
    | nil => exact ⟨by rw [if_pos (by rfl), if_neg (fun q => q.2 rfl)], fun q => absurd rfl q.2⟩
    | cons x0 ch0 =>
      generalize hce : (x0 :: ch0 : Ch) = ch at hc h0
      have hne : ch ≠ [] := by rw [← hce]; simp
      rw [if_neg (by rw [← hce]; simp; omega), if_pos ⟨h0, hne⟩]
      have h40 : ch.length ≤ 40 := by
        unfold mayS at h0
        by_cases q : ch.length > 40
        · rw [if_pos q] at h0; cases h0
        · omega
      have hright : rightS n ch = true := by
        unfold mayS at h0
        rw [if_neg (by omega)] at h0
        cases q : rightS n ch with
        | true => rfl
        | false => rw [q] at h0; cases h0
      have hfit := right_fits hright
      have hlog := loop_run (f := log_Log_Commit.l1) (fun i => (((false, k), (c, -1), xs, [], ch, (List.range i).map fun (k : Nat) => (2 + (k : Int), (ch.getD k (0, [])).2)), ch, (ch.length : Int), (i : Int))) (n := ch.length) (r := ((false, k), (c, -1), xs, [], ch, loggedS ch)) (fun i hi => by
        unfold log_Log_Commit.l1
        simp only
        rw [if_pos (by simpa using hi), if_pos (by omega), if_pos (room (by decide) (by simp; omega)), getD_nat, wrap_succ (by omega), wrap64 (n := 2 + (i : Int)) (by omega) (by omega), List.range_succ, List.map_append]
        rfl) (by
        unfold log_Log_Commit.l1
        simp only
        rw [if_neg (by simp)]
        rfl)
      have e0 : ((((false, k), (c, -1), xs, [], ch, []), ch, (ch.length : Int), (0 : Int)) : ((Bool × Int) × (Int × Int) × List Blk × Loo × Ch × Ch) × Ch × Int × Int) = (((false, k), (c, -1), xs, [], ch, (List.range 0).map fun (k : Nat) => (2 + (k : Int), (ch.getD k (0, [])).2)), ch, (ch.length : Int), ((0 : Nat) : Int)) := rfl
      rw [e0, hlog, Option.bind_some]
      simp only
      have hfl : fits n (loggedS ch) := fun x hx => by
        unfold loggedS at hx
        obtain ⟨k, hk, rfl⟩ := List.mem_map.1 hx
        have := List.mem_range.1 hk
        refine ⟨by simp only; omega, by simp only; omega, (right_at hright k this).2⟩
      obtain ⟨w1, o1⟩ := log_write (p := (false, k)) h hfl (by rw [logged_len]; omega)
      rw [logged_len] at w1 o1
      have hfh : fits n [(1, headS (ch.map (·.1)))] := fits_head (by omega) _ (by simpa using h40)
      obtain ⟨w2, o2⟩ := log_write (p := (false, k)) o1 hfh (by simp; omega)
      obtain ⟨w3, o3⟩ := log_apply (p := (false, k)) o2 (by omega) hfit (by simp; omega)
      have e1 : c + (ch.length : Int) + 1 + (([(1, headS (ch.map (·.1)))] : Ch).length : Int) + 1 + (ch.length : Int) + 3 = c + 2 * (ch.length : Int) + 6 := by simp; omega
      rw [e1] at w3 o3
      have hall : log_all_1 (ch, (false, k), loggedS ch, (c, -1), xs, []) = some ((ch, (false, k), loggedS ch, (c + 2 * (ch.length : Int) + 6, -1), commS xs ch, []), 0) := by
        unfold log_all_1 log_Log_Commit_1
        simp only
        rw [w1, Option.bind_some]
        simp only
        rw [Option.bind_some]
        simp only
        rw [if_neg (by decide)]
        unfold log_Log_Commit_2
        simp only
        rw [numbers_is _ hc, Option.bind_some, head_is _ (by simpa using h40) (fun b hb => by
          obtain ⟨x, hx, rfl⟩ := List.mem_map.1 hb
          have := hfit x hx
          omega), Option.bind_some, w2, Option.bind_some]
        simp only
        rw [Option.bind_some]
        simp only
        rw [if_neg (by decide)]
        unfold log_Log_Commit_3
        simp only
        rw [w3, Option.bind_some]
        simp only
        rw [Option.bind_some]
        simp only
        rw [if_neg (by decide)]
        rfl
      refine ⟨?_, fun _ => o3.mono (by simp; omega) (by omega)⟩
      rw [hall, Option.bind_some]
      simp only
      rw [if_neg (by decide), wrap64 (by omega) (by omega)]
  · rw [if_neg (by simpa using h0), if_neg (fun q => h0 q.1)]
    exact ⟨rfl, fun q => absurd q.1 h0⟩
end Go.Proofs.YtiodpeekbeahlaaGreatDoor.Abs
