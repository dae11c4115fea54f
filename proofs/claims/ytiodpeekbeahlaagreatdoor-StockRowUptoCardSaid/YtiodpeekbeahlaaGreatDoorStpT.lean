/- Slabs: what is kept, written and lost. -/
import Derived.Test.YtiodpeekbeahlaaGreatDoorStpS
namespace Go.Proofs.YtiodpeekbeahlaaGreatDoor.Abs
open Go
set_option linter.unusedVariables false
attribute [-simp] List.getD_eq_getElem?_getD

abbrev Loo := List (Int × Blk)
def mg (es : Loo) (i : Int) : Option Blk := mget (K := .int .i64) (V := .str) es i
def mp (es : Loo) (i : Int) (b : Blk) : Loo := mput (K := .int .i64) (V := .str) es i b

theorem mg_nil (i : Int) : mg [] i = none := rfl
theorem mg_cons (e : Int × Blk) (es : Loo) (i : Int) : mg (e :: es) i = if i = e.1 then some e.2 else mg es i := by
  unfold mg mget
  rw [List.find?_cons]
  change (match (i == e.1) with | true => some e | false => _).map _ = _
  by_cases h : i = e.1
  · rw [if_pos h, beq_iff_eq.2 h]; rfl
  · rw [if_neg h, beq_eq_false_iff_ne.2 h]
theorem mp_cons (e : Int × Blk) (es : Loo) (i : Int) (b : Blk) : mp (e :: es) i b = if i = e.1 then (i, b) :: es else e :: mp es i b := by
  unfold mp
  rw [mput]
  change (if (i == e.1) = true then _ else _) = _
  by_cases h : i = e.1
  · rw [if_pos h, if_pos (beq_iff_eq.2 h)]
  · rw [if_neg h, if_neg (by simpa using h)]
theorem mp_len (i : Int) (b : Blk) : ∀ es : Loo, (mp es i b).length ≤ es.length + 1
  | [] => Nat.le_refl _
  | e :: es => by
    have := mp_len i b es
    rw [mp_cons]; split
    · simp
    · simp; omega
theorem mp_keys (i : Int) (b : Blk) : ∀ es : Loo, ∀ e ∈ mp es i b, e.1 = i ∨ e ∈ es
  | [], e, h => by
    have : e = (i, b) := by simpa [mp, mput] using h
    exact .inl (by rw [this])
  | q :: es, e, h => by
    rw [mp_cons] at h
    split at h
    · rcases List.mem_cons.1 h with rfl | h
      · exact .inl rfl
      · exact .inr (List.mem_cons_of_mem _ h)
    · rcases List.mem_cons.1 h with rfl | h
      · exact .inr (by simp)
      · rcases mp_keys i b es e h with h | h
        · exact .inl h
        · exact .inr (List.mem_cons_of_mem _ h)
theorem mg_some (i : Int) : ∀ es : Loo, (mg es i).isSome = true ↔ i ∈ es.map (·.1)
  | [] => by simp [mg_nil]
  | e :: es => by
    have := mg_some i es
    rw [mg_cons]
    by_cases h : i = e.1
    · rw [if_pos h]; simp [h]
    · rw [if_neg h, this]; simp [h]

/-! ### Images -/

theorem image_len (xs : List Blk) (es : Loo) : (imageS xs es).length = xs.length := by unfold imageS; simp
theorem image_at (xs : List Blk) (es : Loo) (i : Nat) (h : i < xs.length) : (imageS xs es).getD i [] = (mg es (i : Int)).getD (xs.getD i []) := by
  unfold imageS mg
  simp [List.getD, h]
theorem image_nil (xs : List Blk) : imageS xs [] = xs := by
  refine List.ext_getElem (image_len xs []) fun i h1 h2 => ?_
  have := image_at xs [] i h2
  rw [getD_lt h1, getD_lt h2, mg_nil] at this
  exact this

/-- A slab as it can be: so many blocks, so many loose ones at most. -/
structure Okay (n m : Nat) (s : Sl) : Prop where
  firm : s.2.1.length = n
  room : n ≤ 1000 ∧ m ≤ 100000
  loose : s.2.2.length ≤ m
  keys : ∀ e ∈ s.2.2, 0 ≤ e.1 ∧ e.1 < (n : Int)
  calls : 0 ≤ s.1.1 ∧ s.1.1 ≤ (m : Int)
  till : -1 ≤ s.1.2 ∧ s.1.2 ≤ 1099511627776

theorem Okay.mono {n m k : Nat} {s : Sl} (h : Okay n m s) (hk : m ≤ k) (hk2 : k ≤ 100000) : Okay n k s :=
  ⟨h.firm, ⟨h.room.1, hk2⟩, by have := h.loose; omega, h.keys, by have := h.calls; omega, h.till⟩

theorem Okay.image {n m : Nat} {s : Sl} (h : Okay n m s) : slab_Image s = some (s, imageS s.2.1 s.2.2) := by
  unfold slab_Image
  rw [if_pos]
  refine ⟨by have := h.room; have := h.firm; omega, List.all_eq_true.2 fun e he => ?_⟩
  have := h.keys e he
  rw [h.firm]
  simp only [Bool.and_eq_true, decide_eq_true_eq]
  exact this

def ksS (es : Loo) : List Int := isort (es.map (·.1))
theorem Okay.loose_is {n m : Nat} {s : Sl} (h : Okay n m s) : slab_Slab_Loose s = some (s, ksS s.2.2) := by
  obtain ⟨⟨c, u⟩, xs, es⟩ := s
  change ((slices_Sorted es).bind fun q => some (((c, u), xs, q.1), q.2)) = _
  have : slices_Sorted es = some (es, ksS es) := by
    unfold slices_Sorted
    rw [if_pos]
    · rfl
    · refine ⟨by have := h.loose; have := h.room; simp only at *; omega, List.all_eq_true.2 fun e he => ?_⟩
      have := h.keys e he
      have := h.room
      unfold keyWf
      simp only [Bool.and_eq_true, decide_eq_true_eq]
      omega
  rw [this]
  rfl

/-! ### What is kept -/

def laid (xs : List Blk) (es : Loo) (ks : List Int) : Nat → List Blk
  | 0 => xs
  | t + 1 => (laid xs es ks t).set (ks.getD t 0).toNat ((mg es (ks.getD t 0)).getD [])
theorem laid_len (xs : List Blk) (es : Loo) (ks : List Int) : ∀ t, (laid xs es ks t).length = xs.length
  | 0 => rfl
  | t + 1 => by rw [laid, List.length_set, laid_len xs es ks t]
theorem laid_at (xs : List Blk) (es : Loo) (ks : List Int) (hk : ∀ k ∈ ks, 0 ≤ k ∧ k < (xs.length : Int)) (j : Nat) (hj : j < xs.length) : ∀ t, t ≤ ks.length → (laid xs es ks t).getD j [] = if (j : Int) ∈ ks.take t then (mg es (j : Int)).getD [] else xs.getD j []
  | 0, _ => by simp [laid]
  | t + 1, ht => by
    have ih := laid_at xs es ks hk j hj t (by omega)
    have hl := laid_len xs es ks t
    have hm : ks.getD t 0 ∈ ks := by rw [getD_lt (by omega)]; exact List.getElem_mem _
    have hkt := hk _ hm
    rw [laid, take_succ_getD (by omega) 0]
    generalize ks.getD t 0 = k at hkt
    have hset : ((laid xs es ks t).set k.toNat ((mg es k).getD [])).getD j [] = if k.toNat = j then (mg es k).getD [] else (laid xs es ks t).getD j [] := by
      simp only [List.getD, List.getElem?_set]
      by_cases h : k.toNat = j
      · subst h; simp [hl, hj]
      · simp [h]
    rw [hset]
    by_cases h : k.toNat = j
    · have hkj : k = (j : Int) := by omega
      rw [if_pos h, if_pos (by rw [List.mem_append]; exact .inr (by simp [hkj])), hkj]
    · rw [if_neg h, ih]
      have hkj : (j : Int) ≠ k := by omega
      by_cases h2 : (j : Int) ∈ ks.take t
      · rw [if_pos h2, if_pos (by rw [List.mem_append]; exact .inl h2)]
      · rw [if_neg h2, if_neg (by rw [List.mem_append]; rintro (q | q); exact h2 q; simp at q; exact hkj q)]

theorem laid_all (xs : List Blk) (es : Loo) (hk : ∀ e ∈ es, 0 ≤ e.1 ∧ e.1 < (xs.length : Int)) : laid xs es (ksS es) (ksS es).length = imageS xs es := by
  have hmem : ∀ k, k ∈ ksS es ↔ k ∈ es.map (·.1) := fun k => (isort_perm _).mem_iff
  refine List.ext_getElem (by rw [laid_len, image_len]) fun j h1 h2 => ?_
  have hj : j < xs.length := by rw [laid_len] at h1; exact h1
  have e1 := laid_at xs es (ksS es) (fun k hk2 => by
    obtain ⟨e, he, rfl⟩ := List.mem_map.1 ((hmem k).1 hk2)
    exact hk e he) j hj (ksS es).length (Nat.le_refl _)
  have e2 := image_at xs es j hj
  rw [getD_lt h1, List.take_length] at e1
  rw [getD_lt h2] at e2
  rw [e1, e2]
  have hs := mg_some (j : Int) es
  by_cases h : (j : Int) ∈ ksS es
  · rw [if_pos h]
    have := hs.2 ((hmem _).1 h)
    cases hm : mg es (j : Int) with
    | none => rw [hm] at this; cases this
    | some v => rfl
  · rw [if_neg h]
    cases hm : mg es (j : Int) with
    | none => rfl
    | some v => exact absurd ((hmem _).2 (hs.1 (by rw [hm]; rfl))) h

theorem Okay.ks {n m : Nat} {s : Sl} (h : Okay n m s) : (ksS s.2.2).length = s.2.2.length ∧ ∀ k ∈ ksS s.2.2, 0 ≤ k ∧ k < (n : Int) := by
  refine ⟨by unfold ksS; rw [(isort_perm _).length_eq, List.length_map], fun k hk => ?_⟩
  obtain ⟨e, he, rfl⟩ := List.mem_map.1 ((isort_perm _).mem_iff.1 hk)
  exact h.keys e he

theorem Okay.keep {n m : Nat} {s : Sl} (h : Okay n m s) : slab_Slab_keep s = some (s.1, imageS s.2.1 s.2.2, []) := by
  obtain ⟨⟨c, u⟩, xs, es⟩ := s
  unfold slab_Slab_keep
  simp only
  rw [h.loose_is, Option.bind_some]
  simp only
  obtain ⟨h1, h2⟩ := h.ks
  have hf := h.firm
  have hr := h.room
  have hl := h.loose
  simp only at h1 h2 hf hl
  have := loop_run (f := slab_Slab_keep.l1) (fun t => (((c, u), laid xs es (ksS es) t, es), ksS es, ((ksS es).length : Int), (t : Int))) (n := (ksS es).length) (r := ((c, u), laid xs es (ksS es) (ksS es).length, es)) (fun t ht => by
    have hm : (ksS es).getD t 0 ∈ ksS es := by rw [getD_lt ht]; exact List.getElem_mem _
    have hk := h2 _ hm
    unfold slab_Slab_keep.l1 slab_Slab_Flush_1
    simp only
    rw [if_pos (by simpa using ht), if_pos (by omega), Option.bind_some, if_pos rfl, getD_nat, laid_len, if_pos (by omega), wrap_succ (by omega)]
    rfl) (by unfold slab_Slab_keep.l1; simp)
  rw [show (((c, u), xs, es), ksS es, ((ksS es).length : Int), (0 : Int)) = (((c, u), laid xs es (ksS es) 0, es), ksS es, ((ksS es).length : Int), ((0 : Nat) : Int)) from rfl, this, Option.bind_some]
  simp only
  rw [laid_all xs es (fun e he => by rw [hf]; exact h.keys e he)]

/-! ### Calls -/

def callS (s : Sl) : Sl × Int := if s.1.2 = 0 then (((s.1.1 + 1, s.1.2), s.2), 14) else (((s.1.1 + 1, if s.1.2 > 0 then s.1.2 - 1 else s.1.2), s.2), 0)

theorem Okay.call {n m : Nat} {s : Sl} (h : Okay n m s) (hm : m < 100000) : slab_Slab_call s = some (callS s) ∧ Okay n (m + 1) (callS s).1 := by
  obtain ⟨⟨c, u⟩, xs, es⟩ := s
  have hc := h.calls
  have hu := h.till
  have hr := h.room
  simp only at hc hu
  constructor
  · unfold slab_Slab_call callS
    simp only
    by_cases h0 : u = 0
    · rw [if_pos (by simp [h0]), Option.bind_some, if_pos h0, wrap64 (by omega) (by omega)]
    · rw [if_neg (by simp [h0]), if_neg h0]
      by_cases h1 : u > 0
      · rw [if_pos (by simpa using h1), Option.bind_some, if_pos h1, wrap64 (n := u - 1) (by omega) (by omega)]
        simp only
        rw [wrap64 (by omega) (by omega)]
      · rw [if_neg (by simpa using h1), Option.bind_some, if_neg h1]
        simp only
        rw [wrap64 (by omega) (by omega)]
  · unfold callS
    split
    · exact ⟨h.firm, by omega, (by have := h.loose; simp only at this ⊢; omega), h.keys, by simp only; omega, h.till⟩
    · refine ⟨h.firm, by omega, (by have := h.loose; simp only at this ⊢; omega), h.keys, by simp only; omega, ?_⟩
      simp only
      split <;> omega

def writeS (s : Sl) (i : Int) (data : Blk) : Sl × Int :=
  if (callS s).2 ≠ 0 then callS s else
  if 0 ≤ i ∧ i < (s.2.1.length : Int) ∧ data.length ≤ 128 then (((callS s).1.1, s.2.1, mp s.2.2 i (wholeS data)), 0) else ((callS s).1, 1)

theorem callS_2 (s : Sl) : (callS s).1.2 = s.2 := by unfold callS; split <;> rfl

theorem Okay.write {n m : Nat} {s : Sl} (h : Okay n m s) (hm : m < 100000) (i : Int) (data : Blk) : slab_Slab_Write (s, i, data) = some (writeS s i data) ∧ Okay n (m + 1) (writeS s i data).1 := by
  obtain ⟨h1, h2⟩ := h.call hm
  have hf := h.firm
  obtain ⟨⟨c, u⟩, xs, es⟩ := s
  have e2 := callS_2 ((c, u), xs, es)
  simp only at hf e2
  constructor
  · unfold slab_Slab_Write writeS
    simp only
    rw [h1, Option.bind_some]
    generalize callS ((c, u), xs, es) = q at e2
    obtain ⟨⟨⟨c1, u1⟩, ys, fs⟩, e⟩ := q
    simp only [Prod.mk.injEq] at e2
    obtain ⟨rfl, rfl⟩ := e2
    simp only
    by_cases he : e = 0
    · rw [if_neg (show ¬ ((e != 0) = true) by simp [he]), if_neg (show ¬ (e ≠ 0) by simp [he])]
      have ht : slab_Slab_there ((ys, fs, c1, u1), i) = some (decide (0 ≤ i ∧ i < (ys.length : Int))) := by
        unfold slab_Slab_there
        simp only
        by_cases hi : i ≥ 0
        · rw [if_pos (by simpa using hi)]
          congr 1
          exact decide_eq_decide.2 ⟨fun q => ⟨hi, q⟩, fun q => q.2⟩
        · rw [if_neg (by simpa using hi), decide_eq_false (by omega)]
      rw [ht, Option.bind_some]
      by_cases hi : 0 ≤ i ∧ i < (ys.length : Int)
      · rw [decide_eq_true hi, if_pos (by rfl)]
        by_cases hd : data.length ≤ 128
        · rw [if_neg (show ¬ decide ((data.length : Int) > 128) = true by rw [decide_eq_true_eq]; omega), whole_is, Option.bind_some, if_pos ⟨hi.1, hi.2, hd⟩]
          rfl
        · rw [if_pos (show decide ((data.length : Int) > 128) = true by rw [decide_eq_true_eq]; omega), if_neg (fun q => hd q.2.2)]
      · rw [decide_eq_false hi, if_neg (by simp), if_neg (fun q => hi ⟨q.1, q.2.1⟩)]
    · rw [if_pos (show (e != 0) = true by simp [he]), if_pos he]
  · unfold writeS
    split
    · exact h2
    · split
      · rename_i hw
        refine ⟨by simp only; exact hf, h2.room, ?_, fun e he => ?_, h2.calls, h2.till⟩
        · have := mp_len i (wholeS data) es
          have := h.loose
          simp only at *
          omega
        · rcases mp_keys i (wholeS data) es e he with q | q
          · rw [q]; simp only at hw; omega
          · exact h.keys e q
      · exact h2

def flushS (s : Sl) : Sl × Int := if (callS s).2 = 0 then (((callS s).1.1, imageS s.2.1 s.2.2, []), 0) else callS s

theorem Okay.flush {n m : Nat} {s : Sl} (h : Okay n m s) (hm : m < 100000) : slab_Slab_Flush s = some (flushS s) ∧ Okay n (m + 1) (flushS s).1 := by
  obtain ⟨h1, h2⟩ := h.call hm
  have hf := h.firm
  obtain ⟨⟨c, u⟩, xs, es⟩ := s
  have e2 := callS_2 ((c, u), xs, es)
  simp only at hf e2
  constructor
  · unfold slab_Slab_Flush flushS
    simp only
    rw [h1, Option.bind_some]
    generalize callS ((c, u), xs, es) = q at e2 h2
    obtain ⟨⟨⟨c1, u1⟩, ys, fs⟩, e⟩ := q
    simp only [Prod.mk.injEq] at e2
    obtain ⟨rfl, rfl⟩ := e2
    simp only at h2 ⊢
    by_cases he : e = 0
    · rw [if_pos (by simp [he]), if_pos he, h2.keep, Option.bind_some, he]
    · rw [if_neg (by simp [he]), if_neg he]
  · unfold flushS
    split
    · exact ⟨by simp only; rw [image_len]; exact hf, h2.room, by simp, (fun e he => by cases he), h2.calls, h2.till⟩
    · exact h2

end Go.Proofs.YtiodpeekbeahlaaGreatDoor.Abs
