/- Slabs: what each function says of a slab. Slabs: what is kept, written and lost. The moulds: what is written, what is read. -/
import Derived.Test.YtiodpeekbeahlaaGreatDoorDpE
import Derived.Test.YtiodpeekbeahlaaGreatDoorAbsLoops
import Derived.Test.YtiodpeekbeahlaaGreatDoorAbsPlain
namespace Go.Proofs.YtiodpeekbeahlaaGreatDoor.Abs
open Go
set_option linter.unusedVariables false
attribute [-simp] List.getD_eq_getElem?_getD

abbrev Blk := List UInt8
abbrev Sl := (Int × Int) × List Blk × List (Int × Blk)

/-! ### Blocks -/

def wholeS (s : Blk) : Blk := s.take 128 ++ List.replicate (128 - (s.take 128).length) 0

theorem min128 (n : Nat) : (if 128 < (n : Int) then 128 else (n : Int)) = ((min 128 n : Nat) : Int) := by
  by_cases h : 128 < (n : Int)
  · rw [if_pos h]; omega
  · rw [if_neg h]; omega
theorem take128 (s : Blk) : s.take (min 128 s.length) = s.take 128 := by
  rw [← List.take_take, List.take_length]

theorem repL_one (b : UInt8) : ∀ n, Lib.repeatL [b] n = List.replicate n b
  | 0 => rfl
  | n + 1 => by rw [Lib.repeatL, repL_one b n, List.replicate_succ]; rfl

theorem pad_is (s : Blk) (h : s.length ≤ 128) : mould_Pad (s, 128) = some (s ++ List.replicate (128 - s.length) 0, 0) := by
  have hf : mould_fits (s, 128) = some 0 := by
    unfold mould_fits
    simp only
    rw [if_pos (by decide), Option.bind_some]
    simp only
    rw [if_neg (by decide), if_neg (by simp; omega)]
  unfold mould_Pad
  simp only
  rw [hf, Option.bind_some, if_neg (by decide), wrap64 (by omega) (by omega)]
  unfold strings_Repeat
  simp only
  rw [if_pos ⟨by omega, by omega, by simp; omega⟩, Option.bind_some, repL_one, if_pos (by simp; omega), show (128 - (s.length : Int)).toNat = 128 - s.length by omega]

theorem whole_is (s : Blk) : slab_whole s = some (wholeS s) := by
  unfold slab_whole
  rw [min128, if_pos (by omega), Int.toNat_natCast, take128, pad_is _ (by simp; omega), Option.bind_some]
  rfl

theorem refWhole_is (s : Blk) : rf02_Whole s = some (wholeS s) := by
  unfold rf02_Whole
  have hl : (s.take 128).length ≤ 128 := by simp; omega
  rw [min128, if_pos (by omega), Int.toNat_natCast, take128, wrap64 (by omega) (by omega)]
  unfold rf01_Zeros
  rw [if_pos ⟨by omega, by omega, by omega, by omega⟩, Option.bind_some, List.map_replicate, if_pos (by simp; omega), show (128 - ((s.take 128).length : Int)).toNat = 128 - (s.take 128).length by omega]
  rfl

/-! ### Loads -/

def firmS (image : List Blk) : List Blk := (image.take 1000).map wholeS

theorem min1000 (n : Nat) : (if 1000 < (n : Int) then 1000 else (n : Int)) = ((min 1000 n : Nat) : Int) := by
  by_cases h : 1000 < (n : Int)
  · rw [if_pos h]; omega
  · rw [if_neg h]; omega

theorem load_is (image : List Blk) : slab_Load image = some ((0, -1), firmS image, []) := by
  unfold slab_Load
  have ht : image.take (min 1000 image.length) = image.take 1000 := by rw [← List.take_take, List.take_length]
  rw [min1000, if_pos (by omega), Int.toNat_natCast, ht]
  have hl : (image.take 1000).length ≤ 1000 := by simp; omega
  unfold firmS
  generalize image.take 1000 = l at hl
  have := loop_run (f := slab_Load.l1) (fun i => (((0, -1), (l.take i).map wholeS, []), l, (l.length : Int), (i : Int))) (n := l.length) (r := ((0, -1), l.map wholeS, [])) (fun i hi => by
    unfold slab_Load.l1
    simp only
    rw [if_pos (by simpa using hi), if_pos (by omega), getD_nat, whole_is, Option.bind_some, if_pos (room (by decide) (by simp; omega)), wrap_succ (by omega), take_succ_getD hi [], List.map_append]
    rfl) (by unfold slab_Load.l1; simp)
  have e0 : ((((0 : Int), (-1 : Int)), ([] : List Blk), ([] : List (Int × Blk))), l, (l.length : Int), (0 : Int)) = (((0, -1), (l.take 0).map wholeS, []), l, (l.length : Int), ((0 : Nat) : Int)) := by simp
  rw [e0, this, Option.bind_some]

theorem clamp (n : Int) : (if 1000 < (if 0 > n then 0 else n) then 1000 else (if 0 > n then 0 else n)) = ((min 1000 n.toNat : Nat) : Int) := by
  by_cases h : 0 > n
  · rw [if_pos h, if_neg (by omega)]; omega
  · rw [if_neg h]
    by_cases h2 : 1000 < n
    · rw [if_pos h2]; omega
    · rw [if_neg h2]; omega

theorem new_is (n : Int) : slab_New n = some ((0, -1), List.replicate (min 1000 n.toNat) (wholeS []), []) := by
  unfold slab_New
  simp only [clamp]
  rw [if_pos (by first | omega | exact ⟨by omega, by omega, by omega, by omega⟩ | exact ⟨by omega, by omega, room (by decide) (by omega)⟩ | exact ⟨by omega, by omega, by omega, room (by decide) (by omega)⟩)]
  rw [Int.toNat_natCast, load_is, Option.bind_some]
  unfold firmS
  rw [List.take_of_length_le (by simp; omega), List.map_replicate]
end Go.Proofs.YtiodpeekbeahlaaGreatDoor.Abs

namespace Go.Proofs.YtiodpeekbeahlaaGreatDoor.Abs
open Go
set_option linter.unusedVariables false
attribute [-simp] List.getD_eq_getElem?_getD

abbrev Loo := List (Int × Blk)
def mg (es : Loo) (i : Int) : Option Blk := mget (K := .int .i64) (V := .str) es i
def mp (es : Loo) (i : Int) (b : Blk) : Loo := mput (K := .int .i64) (V := .str) es i b

theorem mg_nil (i : Int) : mg [] i = none := rfl
theorem mg_cons (e : Int × Blk) (es : Loo) (i : Int) : mg (e :: es) i = if i = e.1 then some e.2 else mg es i := by
  unfold mg mget
  rw [List.find?_cons]
  change (match (i == e.1) with | true => some e | false => _).map _ = _
  by_cases h : i = e.1
  · rw [if_pos h, beq_iff_eq.2 h]; rfl
  · rw [if_neg h, beq_eq_false_iff_ne.2 h]
theorem mp_cons (e : Int × Blk) (es : Loo) (i : Int) (b : Blk) : mp (e :: es) i b = if i = e.1 then (i, b) :: es else e :: mp es i b := by
  unfold mp
  rw [mput]
  change (if (i == e.1) = true then _ else _) = _
  by_cases h : i = e.1
  · rw [if_pos h, if_pos (beq_iff_eq.2 h)]
  · rw [if_neg h, if_neg (by simpa using h)]
theorem mp_len (i : Int) (b : Blk) : ∀ es : Loo, (mp es i b).length ≤ es.length + 1
  | [] => Nat.le_refl _
  | e :: es => by
    have := mp_len i b es
    rw [mp_cons]; split
    · simp
    · simp; omega
theorem mp_keys (i : Int) (b : Blk) : ∀ es : Loo, ∀ e ∈ mp es i b, e.1 = i ∨ e ∈ es
  | [], e, h => by
    have : e = (i, b) := by simpa [mp, mput] using h
    exact .inl (by rw [this])
  | q :: es, e, h => by
    rw [mp_cons] at h
    split at h
    · rcases List.mem_cons.1 h with rfl | h
      · exact .inl rfl
      · exact .inr (List.mem_cons_of_mem _ h)
    · rcases List.mem_cons.1 h with rfl | h
      · exact .inr (by simp)
      · rcases mp_keys i b es e h with h | h
        · exact .inl h
        · exact .inr (List.mem_cons_of_mem _ h)
theorem mg_some (i : Int) : ∀ es : Loo, (mg es i).isSome = true ↔ i ∈ es.map (·.1)
  | [] => by simp [mg_nil]
  | e :: es => by
    have := mg_some i es
    rw [mg_cons]
    by_cases h : i = e.1
    · rw [if_pos h]; simp [h]
    · rw [if_neg h, this]; simp [h]

/-! ### Images -/

theorem image_len (xs : List Blk) (es : Loo) : (imageS xs es).length = xs.length := by unfold imageS; simp
theorem image_at (xs : List Blk) (es : Loo) (i : Nat) (h : i < xs.length) : (imageS xs es).getD i [] = (mg es (i : Int)).getD (xs.getD i []) := by
  unfold imageS mg
  simp [List.getD, h]
theorem image_nil (xs : List Blk) : imageS xs [] = xs := by
  refine List.ext_getElem (image_len xs []) fun i h1 h2 => ?_
  have := image_at xs [] i h2
  rw [getD_lt h1, getD_lt h2, mg_nil] at this
  exact this

/-- A slab as it can be: so many blocks, so many loose ones at most. -/
structure Okay (n m : Nat) (s : Sl) : Prop where
  firm : s.2.1.length = n
  room : n ≤ 1000 ∧ m ≤ 100000
  loose : s.2.2.length ≤ m
  keys : ∀ e ∈ s.2.2, 0 ≤ e.1 ∧ e.1 < (n : Int)
  calls : 0 ≤ s.1.1 ∧ s.1.1 ≤ (m : Int)
  till : -1 ≤ s.1.2 ∧ s.1.2 ≤ 1099511627776

theorem Okay.mono {n m k : Nat} {s : Sl} (h : Okay n m s) (hk : m ≤ k) (hk2 : k ≤ 100000) : Okay n k s :=
  ⟨h.firm, ⟨h.room.1, hk2⟩, by have := h.loose; omega, h.keys, by have := h.calls; omega, h.till⟩

theorem Okay.image {n m : Nat} {s : Sl} (h : Okay n m s) : slab_Image s = some (s, imageS s.2.1 s.2.2) := by
  unfold slab_Image
  rw [if_pos]
  refine ⟨by have := h.room; have := h.firm; omega, List.all_eq_true.2 fun e he => ?_⟩
  have := h.keys e he
  rw [h.firm]
  simp only [Bool.and_eq_true, decide_eq_true_eq]
  exact this

def ksS (es : Loo) : List Int := isort (es.map (·.1))
theorem Okay.loose_is {n m : Nat} {s : Sl} (h : Okay n m s) : slab_Slab_Loose s = some (s, ksS s.2.2) := by
  obtain ⟨⟨c, u⟩, xs, es⟩ := s
  change ((slices_Sorted es).bind fun q => some (((c, u), xs, q.1), q.2)) = _
  have : slices_Sorted es = some (es, ksS es) := by
    unfold slices_Sorted
    rw [if_pos]
    · rfl
    · refine ⟨by have := h.loose; have := h.room; simp only at *; omega, List.all_eq_true.2 fun e he => ?_⟩
      have := h.keys e he
      have := h.room
      unfold keyWf
      simp only [Bool.and_eq_true, decide_eq_true_eq]
      omega
  rw [this]
  rfl

/-! ### What is kept -/

def laid (xs : List Blk) (es : Loo) (ks : List Int) : Nat → List Blk
  | 0 => xs
  | t + 1 => (laid xs es ks t).set (ks.getD t 0).toNat ((mg es (ks.getD t 0)).getD [])
theorem laid_len (xs : List Blk) (es : Loo) (ks : List Int) : ∀ t, (laid xs es ks t).length = xs.length
  | 0 => rfl
  | t + 1 => by rw [laid, List.length_set, laid_len xs es ks t]
theorem laid_at (xs : List Blk) (es : Loo) (ks : List Int) (hk : ∀ k ∈ ks, 0 ≤ k ∧ k < (xs.length : Int)) (j : Nat) (hj : j < xs.length) : ∀ t, t ≤ ks.length → (laid xs es ks t).getD j [] = if (j : Int) ∈ ks.take t then (mg es (j : Int)).getD [] else xs.getD j []
  | 0, _ => by simp [laid]
  | t + 1, ht => by
    have ih := laid_at xs es ks hk j hj t (by omega)
    have hl := laid_len xs es ks t
    have hm : ks.getD t 0 ∈ ks := by rw [getD_lt (by omega)]; exact List.getElem_mem _
    have hkt := hk _ hm
    rw [laid, take_succ_getD (by omega) 0]
    generalize ks.getD t 0 = k at hkt
    have hset : ((laid xs es ks t).set k.toNat ((mg es k).getD [])).getD j [] = if k.toNat = j then (mg es k).getD [] else (laid xs es ks t).getD j [] := by
      simp only [List.getD, List.getElem?_set]
      by_cases h : k.toNat = j
      · subst h; simp [hl, hj]
      · simp [h]
    rw [hset]
    by_cases h : k.toNat = j
    · have hkj : k = (j : Int) := by omega
      rw [if_pos h, if_pos (by rw [List.mem_append]; exact .inr (by simp [hkj])), hkj]
    · rw [if_neg h, ih]
      have hkj : (j : Int) ≠ k := by omega
      by_cases h2 : (j : Int) ∈ ks.take t
      · rw [if_pos h2, if_pos (by rw [List.mem_append]; exact .inl h2)]
      · rw [if_neg h2, if_neg (by rw [List.mem_append]; rintro (q | q); exact h2 q; simp at q; exact hkj q)]

theorem laid_all (xs : List Blk) (es : Loo) (hk : ∀ e ∈ es, 0 ≤ e.1 ∧ e.1 < (xs.length : Int)) : laid xs es (ksS es) (ksS es).length = imageS xs es := by
  have hmem : ∀ k, k ∈ ksS es ↔ k ∈ es.map (·.1) := fun k => (isort_perm _).mem_iff
  refine List.ext_getElem (by rw [laid_len, image_len]) fun j h1 h2 => ?_
  have hj : j < xs.length := by rw [laid_len] at h1; exact h1
  have e1 := laid_at xs es (ksS es) (fun k hk2 => by
    obtain ⟨e, he, rfl⟩ := List.mem_map.1 ((hmem k).1 hk2)
    exact hk e he) j hj (ksS es).length (Nat.le_refl _)
  have e2 := image_at xs es j hj
  rw [getD_lt h1, List.take_length] at e1
  rw [getD_lt h2] at e2
  rw [e1, e2]
  have hs := mg_some (j : Int) es
  by_cases h : (j : Int) ∈ ksS es
  · rw [if_pos h]
    have := hs.2 ((hmem _).1 h)
    cases hm : mg es (j : Int) with
    | none => rw [hm] at this; cases this
    | some v => rfl
  · rw [if_neg h]
    cases hm : mg es (j : Int) with
    | none => rfl
    | some v => exact absurd ((hmem _).2 (hs.1 (by rw [hm]; rfl))) h

theorem Okay.ks {n m : Nat} {s : Sl} (h : Okay n m s) : (ksS s.2.2).length = s.2.2.length ∧ ∀ k ∈ ksS s.2.2, 0 ≤ k ∧ k < (n : Int) := by
  refine ⟨by unfold ksS; rw [(isort_perm _).length_eq, List.length_map], fun k hk => ?_⟩
  obtain ⟨e, he, rfl⟩ := List.mem_map.1 ((isort_perm _).mem_iff.1 hk)
  exact h.keys e he

theorem Okay.keep {n m : Nat} {s : Sl} (h : Okay n m s) : slab_Slab_keep s = some (s.1, imageS s.2.1 s.2.2, []) := by
  obtain ⟨⟨c, u⟩, xs, es⟩ := s
  unfold slab_Slab_keep
  simp only
  rw [h.loose_is, Option.bind_some]
  simp only
  obtain ⟨h1, h2⟩ := h.ks
  have hf := h.firm
  have hr := h.room
  have hl := h.loose
  simp only at h1 h2 hf hl
  have := loop_run (f := slab_Slab_keep.l1) (fun t => (((c, u), laid xs es (ksS es) t, es), ksS es, ((ksS es).length : Int), (t : Int))) (n := (ksS es).length) (r := ((c, u), laid xs es (ksS es) (ksS es).length, es)) (fun t ht => by
    have hm : (ksS es).getD t 0 ∈ ksS es := by rw [getD_lt ht]; exact List.getElem_mem _
    have hk := h2 _ hm
    unfold slab_Slab_keep.l1 slab_Slab_Flush_1
    simp only
    rw [if_pos (by simpa using ht), if_pos (by omega), Option.bind_some, if_pos rfl, getD_nat, laid_len, if_pos (by omega), wrap_succ (by omega)]
    rfl) (by unfold slab_Slab_keep.l1; simp)
  rw [show (((c, u), xs, es), ksS es, ((ksS es).length : Int), (0 : Int)) = (((c, u), laid xs es (ksS es) 0, es), ksS es, ((ksS es).length : Int), ((0 : Nat) : Int)) from rfl, this, Option.bind_some]
  simp only
  rw [laid_all xs es (fun e he => by rw [hf]; exact h.keys e he)]

/-! ### Calls -/

def callS (s : Sl) : Sl × Int := if s.1.2 = 0 then (((s.1.1 + 1, s.1.2), s.2), 14) else (((s.1.1 + 1, if s.1.2 > 0 then s.1.2 - 1 else s.1.2), s.2), 0)

theorem Okay.call {n m : Nat} {s : Sl} (h : Okay n m s) (hm : m < 100000) : slab_Slab_call s = some (callS s) ∧ Okay n (m + 1) (callS s).1 := by
  obtain ⟨⟨c, u⟩, xs, es⟩ := s
  have hc := h.calls
  have hu := h.till
  have hr := h.room
  simp only at hc hu
  constructor
  · unfold slab_Slab_call callS
    simp only
    by_cases h0 : u = 0
    · rw [if_pos (by simp [h0]), Option.bind_some, if_pos h0, wrap64 (by omega) (by omega)]
    · rw [if_neg (by simp [h0]), if_neg h0]
      by_cases h1 : u > 0
      · rw [if_pos (by simpa using h1), Option.bind_some, if_pos h1, wrap64 (n := u - 1) (by omega) (by omega)]
        simp only
        rw [wrap64 (by omega) (by omega)]
      · rw [if_neg (by simpa using h1), Option.bind_some, if_neg h1]
        simp only
        rw [wrap64 (by omega) (by omega)]
  · unfold callS
    split
    · exact ⟨h.firm, by omega, (by have := h.loose; simp only at this ⊢; omega), h.keys, by simp only; omega, h.till⟩
    · refine ⟨h.firm, by omega, (by have := h.loose; simp only at this ⊢; omega), h.keys, by simp only; omega, ?_⟩
      simp only
      split <;> omega

def writeS (s : Sl) (i : Int) (data : Blk) : Sl × Int :=
  if (callS s).2 ≠ 0 then callS s else
  if 0 ≤ i ∧ i < (s.2.1.length : Int) ∧ data.length ≤ 128 then (((callS s).1.1, s.2.1, mp s.2.2 i (wholeS data)), 0) else ((callS s).1, 1)

theorem callS_2 (s : Sl) : (callS s).1.2 = s.2 := by unfold callS; split <;> rfl

theorem Okay.write {n m : Nat} {s : Sl} (h : Okay n m s) (hm : m < 100000) (i : Int) (data : Blk) : slab_Slab_Write (s, i, data) = some (writeS s i data) ∧ Okay n (m + 1) (writeS s i data).1 := by
  obtain ⟨h1, h2⟩ := h.call hm
  have hf := h.firm
  obtain ⟨⟨c, u⟩, xs, es⟩ := s
  have e2 := callS_2 ((c, u), xs, es)
  simp only at hf e2
  constructor
  · unfold slab_Slab_Write writeS
    simp only
    rw [h1, Option.bind_some]
    generalize callS ((c, u), xs, es) = q at e2
    obtain ⟨⟨⟨c1, u1⟩, ys, fs⟩, e⟩ := q
    simp only [Prod.mk.injEq] at e2
    obtain ⟨rfl, rfl⟩ := e2
    simp only
    by_cases he : e = 0
    · rw [if_neg (show ¬ ((e != 0) = true) by simp [he]), if_neg (show ¬ (e ≠ 0) by simp [he])]
      have ht : slab_Slab_there ((ys, fs, c1, u1), i) = some (decide (0 ≤ i ∧ i < (ys.length : Int))) := by
        unfold slab_Slab_there
        simp only
        by_cases hi : i ≥ 0
        · rw [if_pos (by simpa using hi)]
          congr 1
          exact decide_eq_decide.2 ⟨fun q => ⟨hi, q⟩, fun q => q.2⟩
        · rw [if_neg (by simpa using hi), decide_eq_false (by omega)]
      rw [ht, Option.bind_some]
      by_cases hi : 0 ≤ i ∧ i < (ys.length : Int)
      · rw [decide_eq_true hi, if_pos (by rfl)]
        by_cases hd : data.length ≤ 128
        · rw [if_neg (show ¬ decide ((data.length : Int) > 128) = true by rw [decide_eq_true_eq]; omega), whole_is, Option.bind_some, if_pos ⟨hi.1, hi.2, hd⟩]
          rfl
        · rw [if_pos (show decide ((data.length : Int) > 128) = true by rw [decide_eq_true_eq]; omega), if_neg (fun q => hd q.2.2)]
      · rw [decide_eq_false hi, if_neg (by simp), if_neg (fun q => hi ⟨q.1, q.2.1⟩)]
    · rw [if_pos (show (e != 0) = true by simp [he]), if_pos he]
  · unfold writeS
    split
    · exact h2
    · split
      · rename_i hw
        refine ⟨by simp only; exact hf, h2.room, ?_, fun e he => ?_, h2.calls, h2.till⟩
        · have := mp_len i (wholeS data) es
          have := h.loose
          simp only at *
          omega
        · rcases mp_keys i (wholeS data) es e he with q | q
          · rw [q]; simp only at hw; omega
          · exact h.keys e q
      · exact h2

def flushS (s : Sl) : Sl × Int := if (callS s).2 = 0 then (((callS s).1.1, imageS s.2.1 s.2.2, []), 0) else callS s

theorem Okay.flush {n m : Nat} {s : Sl} (h : Okay n m s) (hm : m < 100000) : slab_Slab_Flush s = some (flushS s) ∧ Okay n (m + 1) (flushS s).1 := by
  obtain ⟨h1, h2⟩ := h.call hm
  have hf := h.firm
  obtain ⟨⟨c, u⟩, xs, es⟩ := s
  have e2 := callS_2 ((c, u), xs, es)
  simp only at hf e2
  constructor
  · unfold slab_Slab_Flush flushS
    simp only
    rw [h1, Option.bind_some]
    generalize callS ((c, u), xs, es) = q at e2 h2
    obtain ⟨⟨⟨c1, u1⟩, ys, fs⟩, e⟩ := q
    simp only [Prod.mk.injEq] at e2
    obtain ⟨rfl, rfl⟩ := e2
    simp only at h2 ⊢
    by_cases he : e = 0
    · rw [if_pos (by simp [he]), if_pos he, h2.keep, Option.bind_some, he]
    · rw [if_neg (by simp [he]), if_neg he]
  · unfold flushS
    split
    · exact ⟨by simp only; rw [image_len]; exact hf, h2.room, by simp, (fun e he => by cases he), h2.calls, h2.till⟩
    · exact h2

end Go.Proofs.YtiodpeekbeahlaaGreatDoor.Abs

namespace Go.Proofs.YtiodpeekbeahlaaGreatDoor.Abs
open Go

def okW (w : Int) : Bool := w == 1 || w == 2 || w == 4
def szI (ws : List Int) : Int := if ws.all okW then ws.sum else -1

theorem sum_bound : ∀ (ws : List Int), ws.all okW = true → 0 ≤ ws.sum ∧ ws.sum ≤ 4 * ws.length
  | [], _ => by simp
  | w :: ws, h => by
    simp only [List.all_cons, Bool.and_eq_true] at h
    have := sum_bound ws h.2
    have h1 := h.1
    simp only [okW, Bool.or_eq_true, beq_iff_eq] at h1
    simp only [List.sum_cons, List.length_cons]
    omega

theorem size_l1 (ws : List Int) (hl : ws.length < 1099511627776) : ∀ (k i : Nat) (n : Int), i + k = ws.length → 0 ≤ n → n ≤ 4 * i →
    loopO mould_Size.l1 (n, ws, (ws.length : Int), (i : Int)) = some (if (ws.drop i).all okW then .inl (n + (ws.drop i).sum) else .inr (-1)) := by
  intro k
  induction k with
  | zero =>
    intro i n hi _ _
    refine loopO_inr ?_
    have h1 : ¬ ((i : Int) < (ws.length : Int)) := by omega
    have h2 : ws.drop i = [] := List.drop_eq_nil_of_le (by omega)
    simp [mould_Size.l1, h1, h2]
  | succ k ih =>
    intro i n hi hn hn2
    have hlt : i < ws.length := by omega
    have hd : ws.drop i = ws[i] :: ws.drop (i + 1) := List.drop_eq_getElem_cons hlt
    have hg : ws.getD i 0 = ws[i] := getD_lt hlt
    have h1 : (i : Int) < (ws.length : Int) := by omega
    have hi1 : IntKind.i64.wrap ((i : Int) + 1) = ((i + 1 : Nat) : Int) := by rw [wrap64 (by omega) (by omega)]; rfl
    by_cases hw : okW ws[i] = true
    · have hw' := hw
      simp only [okW, Bool.or_eq_true, beq_iff_eq] at hw'
      have hn1 : IntKind.i64.wrap (n + ws[i]) = n + ws[i] := wrap64 (by omega) (by omega)
      have step : mould_Size.l1 (n, ws, (ws.length : Int), (i : Int)) = some (.inl (n + ws[i], ws, (ws.length : Int), ((i + 1 : Nat) : Int))) := by
        rcases hw' with (h | h) | h <;> simp only [mould_Size.l1, Int.toNat_natCast, hg, hi1, hn1] <;> simp [h1, h]
      rw [loopO_inl step, ih (i + 1) (n + ws[i]) (by omega) (by omega) (by omega), hd]
      simp only [List.all_cons, hw, Bool.true_and, List.sum_cons]
      by_cases h : (ws.drop (i + 1)).all okW = true
      · rw [if_pos h, if_pos h, Int.add_assoc]
      · rw [if_neg h, if_neg h]
    · have hw' := hw
      simp only [okW, Bool.or_eq_true, beq_iff_eq, not_or] at hw'
      rw [hd]
      simp only [List.all_cons, hw, Bool.false_and]
      refine loopO_inr ?_
      simp only [mould_Size.l1, Int.toNat_natCast, hg]
      simp [h1, hw']

theorem mould_Size_is (ws : List Int) (hl : ws.length < 1099511627776) : mould_Size ws = some (szI ws) := by
  unfold mould_Size
  have := size_l1 ws hl ws.length 0 0 (by omega) (by omega) (by omega)
  simp only [Int.ofNat_zero, List.drop_zero, Int.zero_add] at this
  by_cases h : ws.all okW = true
  · rw [if_pos h] at this
    rw [this, szI, if_pos h]; rfl
  · rw [if_neg h] at this
    rw [this, szI, if_neg h]; rfl

theorem rsize_l1 (ws : List Int) (hl : ws.length < 1099511627776) : ∀ (k i : Nat) (n : Int), i + k = ws.length → 0 ≤ n → n ≤ 4 * i →
    loopO rf01_Size.l1 (ws, n, (i : Int)) = some (if (ws.drop i).all okW then .inl (n + (ws.drop i).sum) else .inr (-1)) := by
  intro k
  induction k with
  | zero =>
    intro i n hi _ _
    refine loopO_inr ?_
    have h1 : ¬ ((i : Int) < (ws.length : Int)) := by omega
    have h2 : ws.drop i = [] := List.drop_eq_nil_of_le (by omega)
    simp [rf01_Size.l1, h1, h2]
  | succ k ih =>
    intro i n hi hn hn2
    have hlt : i < ws.length := by omega
    have hd : ws.drop i = ws[i] :: ws.drop (i + 1) := List.drop_eq_getElem_cons hlt
    have hg : ws.getD i 0 = ws[i] := getD_lt hlt
    have h1 : (i : Int) < (ws.length : Int) := by omega
    have hi1 : IntKind.i64.wrap ((i : Int) + 1) = ((i + 1 : Nat) : Int) := by rw [wrap64 (by omega) (by omega)]; rfl
    by_cases hw : okW ws[i] = true
    · have hw' := hw
      simp only [okW, Bool.or_eq_true, beq_iff_eq] at hw'
      have hn1 : IntKind.i64.wrap (n + ws[i]) = n + ws[i] := wrap64 (by omega) (by omega)
      have step : rf01_Size.l1 (ws, n, (i : Int)) = some (.inl (ws, n + ws[i], ((i + 1 : Nat) : Int))) := by
        rcases hw' with (h | h) | h <;> simp only [rf01_Size.l1, Int.toNat_natCast, hg, hi1, hn1] <;> simp [h1, h]
      rw [loopO_inl step, ih (i + 1) (n + ws[i]) (by omega) (by omega) (by omega), hd]
      simp only [List.all_cons, hw, Bool.true_and, List.sum_cons]
      by_cases h : (ws.drop (i + 1)).all okW = true
      · rw [if_pos h, if_pos h, Int.add_assoc]
      · rw [if_neg h, if_neg h]
    · have hw' := hw
      simp only [okW, Bool.or_eq_true, beq_iff_eq, not_or] at hw'
      rw [hd]
      simp only [List.all_cons, hw, Bool.false_and]
      refine loopO_inr ?_
      simp only [rf01_Size.l1, Int.toNat_natCast, hg]
      simp [h1, hw']

theorem ref_Size_is (ws : List Int) (hl : ws.length < 1099511627776) : rf01_Size ws = some (szI ws) := by
  unfold rf01_Size
  have := rsize_l1 ws hl ws.length 0 0 (by omega) (by omega) (by omega)
  simp only [Int.ofNat_zero, List.drop_zero, Int.zero_add] at this
  by_cases h : ws.all okW = true
  · rw [if_pos h] at this
    rw [this, szI, if_pos h]; rfl
  · rw [if_neg h] at this
    rw [this, szI, if_neg h]; rfl

/-! ### Records -/

def le : Nat → Int → List Int
  | 0, _ => []
  | n + 1, v => v % 256 :: le n (v / 256)

def lim (w : Int) : Int := if w = 1 then 255 else if w = 2 then 65535 else 4294967295

def enc : List Int → List Int → Option (List Int)
  | w :: ws, v :: vs => if v < 0 ∨ v > lim w then none else (enc ws vs).map (le w.toNat v ++ ·)
  | _, _ => some []

theorem le_len : ∀ (n : Nat) (v : Int), (le n v).length = n
  | 0, _ => rfl
  | n + 1, v => by simp [le, le_len n]

theorem wr_l2 (ws t : List Int) (tl i : Int) : ∀ (k : Nat) (b : List Int) (v : Int), 0 ≤ v → b.length + k < 1099511627776 →
    loopO mould_Write.l2 (b, ws, v, (k : Int), t, tl, i) = some (b ++ le k v, ws, t, tl, i)
  | 0, b, v, _, _ => by
    refine loopO_inr ?_
    simp [mould_Write.l2, le]
  | k + 1, b, v, hv, hb => by
    have h8 : Int.fdiv v (2 ^ 8) = v / 256 := by
      rw [Int.fdiv_eq_ediv_of_nonneg _ (by decide)]; rfl
    have hk : IntKind.i64.wrap (((k + 1 : Nat) : Int) - 1) = (k : Int) := by rw [wrap64 (by omega) (by omega)]; omega
    have hr : roomOk (b.length + ([v % 256] : List Int).length) 1 := room (by decide) (by simp; omega)
    have hpos : ((k + 1 : Nat) : Int) > 0 := by omega
    have step : mould_Write.l2 (b, ws, v, ((k + 1 : Nat) : Int), t, tl, i) = some (.inl (b ++ [v % 256], ws, v / 256, (k : Int), t, tl, i)) := by
      simp only [mould_Write.l2, h8, hk, wrapu8, if_pos hr, decide_eq_true hpos, if_true]
    rw [loopO_inl step, wr_l2 ws t tl i k (b ++ [v % 256]) (v / 256) (by omega) (by simp; omega)]
    simp [le]

theorem shr_lim (w v : Int) (hw : (w = 1 ∨ w = 2) ∨ w = 4) (hv : 0 ≤ v) : (Int.fdiv v (2 ^ (min (8 * w).toNat 64)) != 0) = decide (v > lim w) := by
  have key : ∀ (m l : Int), 0 < m → l = m - 1 → (Int.fdiv v m != 0) = decide (v > l) := by
    intro m l hm hl
    rw [Int.fdiv_eq_ediv_of_nonneg _ (by omega), Bool.eq_iff_iff]
    simp only [bne_iff_ne, ne_eq, decide_eq_true_eq]
    by_cases h : v < m
    · have := Int.ediv_eq_zero_of_lt hv h
      omega
    · have : 1 ≤ v / m := (Int.le_ediv_iff_mul_le hm).2 (by omega)
      omega
  rcases hw with (h | h) | h <;> subst h
  · exact key _ _ (by decide) (by decide)
  · exact key _ _ (by decide) (by decide)
  · exact key _ _ (by decide) (by decide)

theorem wr_l1 (ws vs : List Int) (hl : ws.length < 1099511627) (he : vs.length = ws.length) (hok : ws.all okW = true) : ∀ (k i : Nat) (b : List Int), i + k = ws.length → b.length ≤ 4 * i →
    loopO mould_Write.l1 (b, ws, vs, (vs.length : Int), (i : Int)) = some (match enc (ws.drop i) (vs.drop i) with | none => .inr ([], 3) | some e => .inl (b ++ e)) := by
  intro k
  induction k with
  | zero =>
    intro i b hi _
    refine loopO_inr ?_
    have h1 : ¬ ((i : Int) < (vs.length : Int)) := by omega
    have h2 : ws.drop i = [] := List.drop_eq_nil_of_le (by omega)
    simp [mould_Write.l1, h1, h2, enc]
  | succ k ih =>
    intro i b hi hb
    have hlt : i < ws.length := by omega
    have hlv : i < vs.length := by omega
    have hd : ws.drop i = ws[i] :: ws.drop (i + 1) := List.drop_eq_getElem_cons hlt
    have hdv : vs.drop i = vs[i] :: vs.drop (i + 1) := List.drop_eq_getElem_cons hlv
    have hg : ws.getD i 0 = ws[i] := getD_lt hlt
    have hgv : vs.getD i 0 = vs[i] := getD_lt hlv
    have h1 : (i : Int) < (ws.length : Int) := by omega
    have h1v : (i : Int) < (vs.length : Int) := by omega
    have hi1 : IntKind.i64.wrap ((i : Int) + 1) = ((i + 1 : Nat) : Int) := by rw [wrap64 (by omega) (by omega)]; rfl
    have hw : okW ws[i] = true := List.all_eq_true.1 hok _ (List.getElem_mem hlt)
    simp only [okW, Bool.or_eq_true, beq_iff_eq] at hw
    rw [hd, hdv]
    simp only [enc]
    have h8 : IntKind.i64.wrap (8 * ws[i]) = 8 * ws[i] := wrap64 (by omega) (by omega)
    by_cases hneg : vs[i] < 0
    · rw [if_pos (.inl hneg)]
      refine loopO_inr ?_
      simp only [mould_Write.l1, Int.toNat_natCast, hg, hgv]
      simp [h1, h1v, hneg]
    · have hfd : ∀ (m : Int), 0 < m → Int.fdiv vs[i] m = vs[i] / m := fun m hm => Int.fdiv_eq_ediv_of_nonneg _ (by omega)
      have hsh : (Int.fdiv vs[i] (2 ^ (min (8 * ws[i]).toNat 64)) != 0) = decide (vs[i] > lim ws[i]) := shr_lim ws[i] vs[i] hw (by omega)
      by_cases hbig : vs[i] > lim ws[i]
      · rw [if_pos (.inr hbig)]
        refine loopO_inr ?_
        simp only [mould_Write.l1, Int.toNat_natCast, hg, hgv, h8, hsh]
        have : 0 ≤ 8 * ws[i] := by omega
        simp [h1, h1v, hneg, hbig, this]
      · rw [if_neg (by omega)]
        have hwn : ws[i] = ((ws[i].toNat : Nat) : Int) := by omega
        have hin := wr_l2 ws vs (vs.length : Int) (i : Int) ws[i].toNat b vs[i] (by omega) (by omega)
        rw [← hwn] at hin
        have step : mould_Write.l1 (b, ws, vs, (vs.length : Int), (i : Int)) = some (.inl (b ++ le ws[i].toNat vs[i], ws, vs, (vs.length : Int), ((i + 1 : Nat) : Int))) := by
          simp only [mould_Write.l1, Int.toNat_natCast, hg, hgv, h8, hsh, hin, Option.bind_some, hi1]
          have : 0 ≤ 8 * ws[i] := by omega
          simp [h1, h1v, hneg, hbig, this]
        rw [loopO_inl step, ih (i + 1) _ (by omega) (by simp [le_len]; omega)]
        cases enc (ws.drop (i + 1)) (vs.drop (i + 1)) <;> simp

theorem rwr_l2 (ws vs : List Int) (i : Nat) (hi : i < ws.length) (hw : 0 ≤ ws[i]) (hw2 : ws[i] ≤ 4) : ∀ (k : Nat) (b : List Int) (v : Int) (j : Nat), (j : Int) + k = ws[i] → 0 ≤ v → v < 9223372036854775808 → b.length + k < 1099511627776 →
    loopO rf01_Write.l2 (b, ws, vs, (i : Int), v, (j : Int)) = some (b ++ le k v, ws, vs, (i : Int))
  | 0, b, v, j, hj, _, _, _ => by
    refine loopO_inr ?_
    have h1 : (i : Int) < (ws.length : Int) := by omega
    have hg : ws.getD i 0 = ws[i] := getD_lt hi
    have : ¬ ((j : Int) < ws[i]) := by omega
    simp only [rf01_Write.l2, Int.toNat_natCast, hg]
    simp [h1, this, le]
  | k + 1, b, v, j, hj, hv, hv2, hb => by
    have h1 : (i : Int) < (ws.length : Int) := by omega
    have hg : ws.getD i 0 = ws[i] := getD_lt hi
    have hlt : (j : Int) < ws[i] := by omega
    have hm : IntKind.u8.wrap (Int.tmod v 256) = v % 256 := by
      rw [wrapu8, Int.tmod_eq_emod_of_nonneg hv, Int.emod_emod_of_dvd _ (by decide)]
    have hq : IntKind.i64.wrap (Int.tdiv v 256) = v / 256 := by
      rw [Int.tdiv_eq_ediv_of_nonneg hv, wrap64 (by omega) (by omega)]
    have hj1 : IntKind.i64.wrap ((j : Int) + 1) = ((j + 1 : Nat) : Int) := by rw [wrap64 (by omega) (by omega)]; rfl
    have hr : roomOk (b.length + ([v % 256] : List Int).length) 1 := room (by decide) (by simp; omega)
    have step : rf01_Write.l2 (b, ws, vs, (i : Int), v, (j : Int)) = some (.inl (b ++ [v % 256], ws, vs, (i : Int), v / 256, ((j + 1 : Nat) : Int))) := by
      simp only [rf01_Write.l2, Int.toNat_natCast, hg, hm, hq, hj1, if_pos hr]
      simp [h1, hlt]
    rw [loopO_inl step, rwr_l2 ws vs i hi hw hw2 k (b ++ [v % 256]) (v / 256) (j + 1) (by omega) (by omega) (by omega) (by simp; omega)]
    simp [le]

theorem most_is (w : Int) : rf01_most w = some (lim w) := by
  unfold rf01_most lim
  by_cases h1 : w = 1
  · simp [h1]
  · by_cases h2 : w = 2
    · simp [h2]
    · simp [h1, h2]

theorem rwr_l1 (ws vs : List Int) (hl : ws.length < 1099511627) (he : vs.length = ws.length) (hok : ws.all okW = true) : ∀ (k i : Nat) (b : List Int), i + k = ws.length → b.length ≤ 4 * i →
    loopO rf01_Write.l1 (b, ws, vs, (i : Int)) = some (match enc (ws.drop i) (vs.drop i) with | none => .inr ([], 3) | some e => .inl (b ++ e)) := by
  intro k
  induction k with
  | zero =>
    intro i b hi _
    refine loopO_inr ?_
    have h1 : ¬ ((i : Int) < (ws.length : Int)) := by omega
    have h2 : ws.drop i = [] := List.drop_eq_nil_of_le (by omega)
    simp [rf01_Write.l1, h1, h2, enc]
  | succ k ih =>
    intro i b hi hb
    have hlt : i < ws.length := by omega
    have hlv : i < vs.length := by omega
    have hd : ws.drop i = ws[i] :: ws.drop (i + 1) := List.drop_eq_getElem_cons hlt
    have hdv : vs.drop i = vs[i] :: vs.drop (i + 1) := List.drop_eq_getElem_cons hlv
    have hg : ws.getD i 0 = ws[i] := getD_lt hlt
    have hgv : vs.getD i 0 = vs[i] := getD_lt hlv
    have h1 : (i : Int) < (ws.length : Int) := by omega
    have h1v : (i : Int) < (vs.length : Int) := by omega
    have hi1 : IntKind.i64.wrap ((i : Int) + 1) = ((i + 1 : Nat) : Int) := by rw [wrap64 (by omega) (by omega)]; rfl
    have hw : okW ws[i] = true := List.all_eq_true.1 hok _ (List.getElem_mem hlt)
    simp only [okW, Bool.or_eq_true, beq_iff_eq] at hw
    have hlim : lim ws[i] ≤ 4294967295 := by unfold lim; split <;> (try split) <;> omega
    rw [hd, hdv]
    simp only [enc]
    by_cases hneg : vs[i] < 0
    · rw [if_pos (.inl hneg)]
      refine loopO_inr ?_
      simp only [rf01_Write.l1, Int.toNat_natCast, hg, hgv]
      simp [h1, h1v, hneg]
    · by_cases hbig : vs[i] > lim ws[i]
      · rw [if_pos (.inr hbig)]
        refine loopO_inr ?_
        simp only [rf01_Write.l1, Int.toNat_natCast, hg, hgv, most_is]
        simp [h1, h1v, hneg, hbig]
      · rw [if_neg (by omega)]
        have hin := rwr_l2 ws vs i hlt (by omega) (by omega) ws[i].toNat b vs[i] 0 (by omega) (by omega) (by omega) (by omega)
        rw [show (((0 : Nat) : Int)) = 0 from rfl] at hin
        have step : rf01_Write.l1 (b, ws, vs, (i : Int)) = some (.inl (b ++ le ws[i].toNat vs[i], ws, vs, ((i + 1 : Nat) : Int))) := by
          simp only [rf01_Write.l1, Int.toNat_natCast, hg, hgv, most_is, Option.bind_some, hin, hi1]
          simp [h1, h1v, hneg, hbig]
        rw [loopO_inl step, ih (i + 1) _ (by omega) (by simp [le_len]; omega)]
        cases enc (ws.drop (i + 1)) (vs.drop (i + 1)) <;> simp

def u8s (l : List Int) : List UInt8 := l.map fun (n : Int) => UInt8.ofNat n.toNat

def wr (ws vs : List Int) : List UInt8 × Int :=
  if ws.all okW = true ∧ ws.length = vs.length then (match enc ws vs with | none => ([], 3) | some e => (u8s e, 0)) else ([], 1)

theorem szI_neg (ws : List Int) : szI ws < 0 ↔ ¬ ws.all okW = true := by
  unfold szI
  split
  · rename_i h
    have := (sum_bound ws h).1
    constructor
    · omega
    · intro h2; exact absurd h h2
  · rename_i h
    simp [h]

theorem mould_Write_is (ws vs : List Int) (hl : ws.length < 1099511627) (_hlv : vs.length < 1099511627) : mould_Write (ws, vs) = some (wr ws vs) := by
  unfold mould_Write wr
  simp only [mould_Size_is ws (by omega), Option.bind_some]
  by_cases hok : ws.all okW = true
  · have hneg : ¬ szI ws < 0 := fun h => (szI_neg ws).1 h hok
    have hsz : szI ws = ws.sum := if_pos hok
    have hb := sum_bound ws hok
    rw [if_pos (by simp [hneg])]
    by_cases he : ws.length = vs.length
    · rw [if_neg (by simp [he]), if_pos (And.intro hok he)]
      have := wr_l1 ws vs hl he.symm hok ws.length 0 [] (by omega) (by simp)
      simp only [Int.ofNat_zero, List.drop_zero] at this
      rw [if_pos (by rw [hsz]; omega)]
      simp only [List.replicate_zero]
      rw [this]
      cases enc ws vs <;> simp [u8s]
    · rw [if_pos (by simp; omega), if_neg (by simp [he])]
  · have hneg : szI ws < 0 := (szI_neg ws).2 hok
    rw [if_neg (by simp [hneg]), if_neg (by simp [hok])]

theorem ref_Write_is (ws vs : List Int) (hl : ws.length < 1099511627) (_hlv : vs.length < 1099511627) : rf01_Write (ws, vs) = some (wr ws vs) := by
  unfold rf01_Write wr
  simp only [ref_Size_is ws (by omega), Option.bind_some]
  by_cases hok : ws.all okW = true
  · have hneg : ¬ szI ws < 0 := fun h => (szI_neg ws).1 h hok
    rw [if_pos (by simp [hneg])]
    by_cases he : ws.length = vs.length
    · rw [if_neg (by simp [he]), if_pos (And.intro hok he)]
      have := rwr_l1 ws vs hl he.symm hok ws.length 0 [] (by omega) (by simp)
      simp only [Int.ofNat_zero, List.drop_zero] at this
      rw [this]
      cases enc ws vs <;> simp [u8s]
    · rw [if_pos (by simp; omega), if_neg (by simp [he])]
  · have hneg : szI ws < 0 := (szI_neg ws).2 hok
    rw [if_neg (by simp [hneg]), if_neg (by simp [hok])]


def val : List UInt8 → Nat
  | [] => 0
  | b :: r => b.toNat + 256 * val r

def rdS : List Int → List UInt8 → List Int
  | w :: ws, s => (val (s.take w.toNat) : Int) :: rdS ws (s.drop w.toNat)
  | [], _ => []

theorem val_take_succ : ∀ (l : List UInt8) (j : Nat) (h : j < l.length), val (l.take (j + 1)) = val (l.take j) + l[j].toNat * 256 ^ j
  | b :: r, 0, _ => by simp [val]
  | b :: r, j + 1, h => by
    have h' : j < r.length := by simpa using h
    have := val_take_succ r j h'
    simp only [List.take_succ_cons, val, this, List.getElem_cons_succ, Nat.pow_succ, Nat.mul_add]
    have e : 256 * (r[j].toNat * 256 ^ j) = r[j].toNat * (256 ^ j * 256) := by
      rw [Nat.mul_comm 256, Nat.mul_assoc]
    omega

theorem val_lt : ∀ (l : List UInt8), val l < 256 ^ l.length
  | [] => by simp [val]
  | b :: r => by
    have := val_lt r
    have hb : b.toNat < 256 := b.toNat_lt
    simp only [val, List.length_cons, Nat.pow_succ]
    omega

theorem shl_is {c j : Nat} (hc : c < 256) (hj : j < 4) : IntKind.i64.wrap (IntKind.i64.wrap (c : Int) * 2 ^ (min (IntKind.i64.wrap (8 * (j : Int))).toNat 64)) = ((c * 256 ^ j : Nat) : Int) := by
  rw [wrap64 (n := (c : Int)) (by omega) (by omega), wrap64 (n := 8 * (j : Int)) (by omega) (by omega)]
  have hj' : j = 0 ∨ j = 1 ∨ j = 2 ∨ j = 3 := by omega
  have key : ∀ m : Int, 0 < m → m ≤ 16777216 → IntKind.i64.wrap ((c : Int) * m) = (c : Int) * m := fun m h1 h2 => by
    have h3 : (c : Int) * m ≤ 255 * 16777216 := Int.mul_le_mul (by omega) h2 (by omega) (by omega)
    have h4 : 0 ≤ (c : Int) * m := Int.mul_nonneg (by omega) (by omega)
    exact wrap64 (by omega) (by omega)
  rcases hj' with rfl | rfl | rfl | rfl
  · exact (key _ (by decide) (by decide)).trans (by simp)
  · exact (key _ (by decide) (by decide)).trans (by simp)
  · exact (key _ (by decide) (by decide)).trans (by simp)
  · exact (key _ (by decide) (by decide)).trans (by simp)

theorem or_add {x c j : Nat} (hx : x < 256 ^ j) (hc : c < 256) (hj : j < 4) : bitsOp .or .i64 (x : Int) ((c * 256 ^ j : Nat) : Int) = ((x + c * 256 ^ j : Nat) : Int) := by
  have h1 : 256 ^ j ≤ 256 ^ 3 := Nat.pow_le_pow_right (by decide) (by omega)
  have h2 : c * 256 ^ j ≤ 255 * 256 ^ 3 := Nat.mul_le_mul (by omega) h1
  have h3 : (255 * 256 ^ 3 : Nat) = 4278190080 := by decide
  have h4 : (256 ^ 3 : Nat) = 16777216 := by decide
  rw [or64 (by omega) (by omega)]
  have e : (256 ^ j : Nat) = 2 ^ (8 * j) := by rw [Nat.pow_mul]
  rw [Nat.or_comm, e, Nat.mul_comm c, ← Nat.two_pow_add_eq_or_of_lt (by rw [← e]; exact hx), Nat.add_comm]

theorem rd_l2 (s : List UInt8) (w : Int) (ws : List Int) (wl t27 : Int) (i : Nat) (bs : List UInt8) (hb : bs.length ≤ 4) : ∀ (k j : Nat) (values : List Int), j + k = bs.length → i < values.length → values.getD i 0 = (val (bs.take j) : Int) →
    loopO mould_Read.l2 (values, s, (i : Int), w, ws, wl, t27, bs.map (fun b => (b.toNat : Int)), ((bs.map (fun b => (b.toNat : Int))).length : Int), (j : Int)) = some (values.set i (val bs : Int), s, w, ws, wl, t27) := by
  intro k
  induction k with
  | zero =>
    intro j values hj hi hv
    refine loopO_inr ?_
    have h1 : ¬ ((j : Int) < ((bs.map (fun b => (b.toNat : Int))).length : Int)) := by simp; omega
    have h2 : values.set i (val bs : Int) = values := by
      rw [List.take_of_length_le (by omega), getD_lt hi] at hv
      rw [← hv]; exact List.set_getElem_self hi
    rw [h2]
    simp only [mould_Read.l2]
    rw [if_neg (by simpa using h1)]
  | succ k ih =>
    intro j values hj hi hv
    have hlt : j < bs.length := by omega
    have hg : (bs.map (fun b => (b.toNat : Int))).getD j 0 = (bs[j].toNat : Int) := by simp [List.getD, hlt]
    have hc : bs[j].toNat < 256 := bs[j].toNat_lt
    have hj1 : IntKind.i64.wrap ((j : Int) + 1) = ((j + 1 : Nat) : Int) := by rw [wrap64 (by omega) (by omega)]; rfl
    have h8 : IntKind.i64.wrap (8 * (j : Int)) = 8 * (j : Int) := wrap64 (by omega) (by omega)
    have hx : val (bs.take j) < 256 ^ j := by
      have := val_lt (bs.take j)
      rwa [List.length_take_of_le (by omega)] at this
    have hor := or_add hx hc (by omega)
    rw [← val_take_succ bs j hlt] at hor
    have step : mould_Read.l2 (values, s, (i : Int), w, ws, wl, t27, bs.map (fun b => (b.toNat : Int)), ((bs.map (fun b => (b.toNat : Int))).length : Int), (j : Int)) =
        some (.inl (values.set i (val (bs.take (j + 1)) : Int), s, (i : Int), w, ws, wl, t27, bs.map (fun b => (b.toNat : Int)), ((bs.map (fun b => (b.toNat : Int))).length : Int), ((j + 1 : Nat) : Int))) := by
      simp only [mould_Read.l2, Int.toNat_natCast, hg, hj1, hv, shl_is hc (show j < 4 by omega), hor]
      rw [if_pos (by simp; omega), if_pos (by simp; omega), if_pos (by omega), if_pos (by rw [h8]; omega), if_pos (by omega)]
    rw [loopO_inl step, ih (j + 1) _ (by omega) (by simpa using hi) (by simp [List.getD, hi])]
    simp

theorem rd_l1 (ws : List Int) (hl : ws.length < 1099511627) (hok : ws.all okW = true) : ∀ (k i : Nat) (s : List UInt8) (pre : List Int), i + k = ws.length → pre.length = i → (ws.drop i).sum ≤ s.length →
    loopO mould_Read.l1 (pre ++ List.replicate k 0, s, ws, (ws.length : Int), (i : Int)) = some (pre ++ rdS (ws.drop i) s) := by
  intro k
  induction k with
  | zero =>
    intro i s pre hi hp _
    refine loopO_inr ?_
    have h1 : ¬ ((i : Int) < (ws.length : Int)) := by omega
    have h2 : ws.drop i = [] := List.drop_eq_nil_of_le (by omega)
    simp [mould_Read.l1, h1, h2, rdS]
  | succ k ih =>
    intro i s pre hi hp hs
    have hlt : i < ws.length := by omega
    have hd : ws.drop i = ws[i] :: ws.drop (i + 1) := List.drop_eq_getElem_cons hlt
    have hg : ws.getD i 0 = ws[i] := getD_lt hlt
    have h1 : (i : Int) < (ws.length : Int) := by omega
    have hi1 : IntKind.i64.wrap ((i : Int) + 1) = ((i + 1 : Nat) : Int) := by rw [wrap64 (by omega) (by omega)]; rfl
    have hw : okW ws[i] = true := List.all_eq_true.1 hok _ (List.getElem_mem hlt)
    simp only [okW, Bool.or_eq_true, beq_iff_eq] at hw
    have hrest : (ws.drop (i + 1)).all okW = true := List.all_eq_true.2 fun x hx => List.all_eq_true.1 hok x (List.mem_of_mem_drop hx)
    have hsum := sum_bound _ hrest
    rw [hd, List.sum_cons] at hs
    have hwl : ws[i].toNat ≤ s.length := by omega
    have hlen : (pre ++ List.replicate (k + 1) (0 : Int)).length = ws.length := by simp; omega
    have hin := rd_l2 s ws[i] ws (ws.length : Int) (i : Int) i (s.take ws[i].toNat) (by simp; omega) (s.take ws[i].toNat).length 0 (pre ++ List.replicate (k + 1) 0) (by omega) (by omega) (by
      simp [List.getD, hp, val])
    rw [show (((0 : Nat) : Int)) = 0 from rfl] at hin
    have step : mould_Read.l1 (pre ++ List.replicate (k + 1) 0, s, ws, (ws.length : Int), (i : Int)) =
        some (.inl ((pre ++ [(val (s.take ws[i].toNat) : Int)]) ++ List.replicate k 0, s.drop ws[i].toNat, ws, (ws.length : Int), ((i + 1 : Nat) : Int))) := by
      simp only [mould_Read.l1, Int.toNat_natCast, hg, hin, Option.bind_some, hi1]
      rw [if_pos (by simpa using h1), if_pos (by omega), if_pos (by omega), if_pos (by omega)]
      congr 4
      rw [List.set_append_right _ _ (by omega)]
      simp [hp, List.replicate_succ]
    rw [loopO_inl step, ih (i + 1) _ _ (by omega) (by simp; omega) (by simp; omega), hd]
    simp [rdS]

def rd (ws : List Int) (s : List UInt8) : List Int × Int :=
  if ws.all okW = true then (if (s.length : Int) < ws.sum then ([], 2) else (rdS ws s, 0)) else ([], 1)

theorem mould_Read_is (ws : List Int) (s : List UInt8) (hl : ws.length < 1099511627) : mould_Read (ws, s) = some (rd ws s) := by
  unfold mould_Read rd
  simp only [mould_Size_is ws (by omega), Option.bind_some]
  by_cases hok : ws.all okW = true
  · have hneg : ¬ szI ws < 0 := fun h => (szI_neg ws).1 h hok
    have hsz : szI ws = ws.sum := if_pos hok
    rw [if_neg (by simp [hneg]), if_pos hok, hsz]
    by_cases hs : (s.length : Int) < ws.sum
    · rw [if_pos (by simpa using hs), if_pos hs]
    · rw [if_neg (by simpa using hs), if_neg hs]
      have := rd_l1 ws hl hok ws.length 0 s [] (by omega) rfl (by simp; omega)
      simp only [Int.ofNat_zero, List.drop_zero, List.nil_append] at this
      rw [if_pos (by omega), Int.toNat_natCast, this]
      rfl
  · have hneg : szI ws < 0 := (szI_neg ws).2 hok
    rw [if_pos (by simp [hneg]), if_neg hok]

theorem rrd_l2 (ws : List Int) (s : List UInt8) (out : List Int) (at7 i : Int) (a : Nat) (hat : at7 = (a : Int)) (hs : s.length < 1099511627776) : ∀ (k : Nat) (v : Nat), k ≤ 4 → a + k ≤ s.length → v < 256 ^ (4 - k) →
    loopO rf01_Read.l2 (out, ws, s, at7, i, (v : Int), (k : Int) - 1) = some (out, ws, s, at7, i, ((256 ^ k * v + val ((s.drop a).take k) : Nat) : Int))
  | 0, v, _, _, _ => by
    refine loopO_inr ?_
    simp [rf01_Read.l2, val]
  | k + 1, v, hk, hl, hv => by
    subst hat
    have hlt : a + k < s.length := by omega
    have e1 : ((k + 1 : Nat) : Int) - 1 = (k : Int) := by omega
    have e2 : IntKind.i64.wrap ((a : Int) + (k : Int)) = ((a + k : Nat) : Int) := by rw [wrap64 (by omega) (by omega)]; rfl
    have hg : s.getD (a + k) 0 = s[a + k] := getD_lt hlt
    have hc : s[a + k].toNat < 256 := s[a + k].toNat_lt
    have hv4 : 256 ^ (4 - (k + 1)) ≤ 256 ^ 3 := Nat.pow_le_pow_right (by decide) (by omega)
    have h4 : (256 ^ 3 : Nat) = 16777216 := by decide
    have e3 : IntKind.i64.wrap (IntKind.i64.wrap (256 * (v : Int)) + IntKind.i64.wrap (s[a + k].toNat : Int)) = ((256 * v + s[a + k].toNat : Nat) : Int) := by
      rw [wrap64 (n := 256 * (v : Int)) (by omega) (by omega), wrap64 (n := (s[a + k].toNat : Int)) (by omega) (by omega), wrap64 (by omega) (by omega)]
      rfl
    have e4 : IntKind.i64.wrap ((k : Int) - 1) = (k : Int) - 1 := wrap64 (by omega) (by omega)
    have step : rf01_Read.l2 (out, ws, s, (a : Int), i, (v : Int), ((k + 1 : Nat) : Int) - 1) = some (.inl (out, ws, s, (a : Int), i, ((256 * v + s[a + k].toNat : Nat) : Int), (k : Int) - 1)) := by
      rw [e1]
      simp only [rf01_Read.l2, e2, Int.toNat_natCast, hg, e3, e4]
      rw [if_pos (by simp), if_pos (by omega)]
    have hv2 : 256 * v + s[a + k].toNat < 256 ^ (4 - k) := by
      have : (256 ^ (4 - k) : Nat) = 256 ^ (4 - (k + 1)) * 256 := by rw [← Nat.pow_succ]; congr 1; omega
      omega
    rw [loopO_inl step, rrd_l2 ws s out (a : Int) i a rfl hs k _ (by omega) (by omega) hv2]
    have hvt := val_take_succ (s.drop a) k (by simp; omega)
    rw [List.getElem_drop] at hvt
    rw [hvt, Nat.mul_add, Nat.pow_succ, Nat.mul_comm (s[a + k].toNat), Nat.mul_assoc]
    congr 6
    omega

theorem rrd_l1 (ws : List Int) (hl : ws.length < 1099511627) (hok : ws.all okW = true) (s : List UInt8) (hsl : s.length < 1099511627776) : ∀ (k i a : Nat) (out : List Int), i + k = ws.length → out.length = i → (a : Int) + (ws.drop i).sum ≤ s.length →
    loopO rf01_Read.l1 (out, ws, s, (a : Int), (i : Int)) = some (out ++ rdS (ws.drop i) (s.drop a)) := by
  intro k
  induction k with
  | zero =>
    intro i a out hi ho _
    refine loopO_inr ?_
    have h1 : ¬ ((i : Int) < (ws.length : Int)) := by omega
    have h2 : ws.drop i = [] := List.drop_eq_nil_of_le (by omega)
    simp [rf01_Read.l1, h1, h2, rdS]
  | succ k ih =>
    intro i a out hi ho hs
    have hlt : i < ws.length := by omega
    have hd : ws.drop i = ws[i] :: ws.drop (i + 1) := List.drop_eq_getElem_cons hlt
    have hg : ws.getD i 0 = ws[i] := getD_lt hlt
    have h1 : (i : Int) < (ws.length : Int) := by omega
    have hi1 : IntKind.i64.wrap ((i : Int) + 1) = ((i + 1 : Nat) : Int) := by rw [wrap64 (by omega) (by omega)]; rfl
    have hw : okW ws[i] = true := List.all_eq_true.1 hok _ (List.getElem_mem hlt)
    simp only [okW, Bool.or_eq_true, beq_iff_eq] at hw
    have hrest : (ws.drop (i + 1)).all okW = true := List.all_eq_true.2 fun x hx => List.all_eq_true.1 hok x (List.mem_of_mem_drop hx)
    have hsum := sum_bound _ hrest
    rw [hd, List.sum_cons] at hs
    have hwn : ws[i] = ((ws[i].toNat : Nat) : Int) := by omega
    have hw1 : IntKind.i64.wrap (ws[i] - 1) = ((ws[i].toNat : Nat) : Int) - 1 := by rw [wrap64 (by omega) (by omega)]; omega
    have ha1 : IntKind.i64.wrap ((a : Int) + ws[i]) = ((a + ws[i].toNat : Nat) : Int) := by rw [wrap64 (by omega) (by omega)]; omega
    have hin := rrd_l2 ws s out (a : Int) (i : Int) a rfl hsl ws[i].toNat 0 (by omega) (by omega) (Nat.pow_pos (by decide))
    rw [show (((0 : Nat) : Int)) = 0 from rfl] at hin
    have hr : roomOk (out.length + ([((256 ^ ws[i].toNat * 0 + val ((s.drop a).take ws[i].toNat) : Nat) : Int)] : List Int).length) 8 := room (by decide) (by simp; omega)
    have step : rf01_Read.l1 (out, ws, s, (a : Int), (i : Int)) = some (.inl (out ++ [(val ((s.drop a).take ws[i].toNat) : Int)], ws, s, ((a + ws[i].toNat : Nat) : Int), ((i + 1 : Nat) : Int))) := by
      simp only [rf01_Read.l1, Int.toNat_natCast, hg, hw1, hin, Option.bind_some, ha1, hi1]
      rw [if_pos (by simpa using h1), if_pos (by omega), if_pos hr, if_pos (by omega)]
      simp
    rw [loopO_inl step, ih (i + 1) _ _ (by omega) (by simp; omega) (by omega), hd]
    simp [rdS, List.drop_drop]

theorem ref_Read_is (ws : List Int) (s : List UInt8) (hl : ws.length < 1099511627) (hsl : s.length < 1099511627776) : rf01_Read (ws, s) = some (rd ws s) := by
  unfold rf01_Read rd
  simp only [ref_Size_is ws (by omega), Option.bind_some]
  by_cases hok : ws.all okW = true
  · have hneg : ¬ szI ws < 0 := fun h => (szI_neg ws).1 h hok
    have hsz : szI ws = ws.sum := if_pos hok
    rw [if_neg (by simp [hneg]), if_pos hok, hsz]
    by_cases hs : (s.length : Int) < ws.sum
    · rw [if_pos (by simpa using hs), if_pos hs]
    · rw [if_neg (by simpa using hs), if_neg hs]
      have := rrd_l1 ws hl hok s hsl ws.length 0 0 [] (by omega) rfl (by simp; omega)
      simp only [Int.ofNat_zero, List.drop_zero, List.nil_append] at this
      rw [this]
      rfl
  · have hneg : szI ws < 0 := (szI_neg ws).2 hok
    rw [if_pos (by simp [hneg]), if_neg hok]

theorem rdS_len : ∀ (ws : List Int) (s : List UInt8), (rdS ws s).length = ws.length
  | [], _ => rfl
  | w :: ws, s => by simp [rdS, rdS_len ws]

theorem rd_len (ws : List Int) (s : List UInt8) : (rd ws s).1.length ≤ ws.length := by
  unfold rd
  split
  · split
    · simp
    · simp [rdS_len]
  · simp
theorem enc_len : ∀ (ws vs : List Int) (e : List Int), ws.all okW = true → enc ws vs = some e → ws.length = vs.length → (e.length : Int) = ws.sum
  | [], vs, e, _, h, _ => by
    simp [enc] at h; rw [h]; rfl
  | w :: ws, [], e, _, _, h => by simp at h
  | w :: ws, v :: vs, e, hok, h, hl => by
    simp only [List.all_cons, Bool.and_eq_true] at hok
    simp only [enc] at h
    split at h
    · cases h
    · simp only [Option.map_eq_some_iff] at h
      obtain ⟨e2, h2, rfl⟩ := h
      have := enc_len ws vs e2 hok.2 h2 (by simpa using hl)
      have hw := hok.1
      simp only [okW, Bool.or_eq_true, beq_iff_eq] at hw
      simp only [List.length_append, le_len, List.sum_cons]
      omega

theorem u8s_app (a b : List Int) : u8s (a ++ b) = u8s a ++ u8s b := by simp [u8s]


theorem lim_pow (w : Int) (hw : okW w = true) : lim w = ((256 ^ w.toNat : Nat) : Int) - 1 := by
  simp only [okW, Bool.or_eq_true, beq_iff_eq] at hw
  rcases hw with (h | h) | h <;> subst h <;> decide

theorem u8_of (v : Int) (h : 0 ≤ v) : (UInt8.ofNat (v % 256).toNat).toNat = (v % 256).toNat := by
  rw [UInt8.toNat_ofNat']
  exact Nat.mod_eq_of_lt (by omega)

theorem val_le : ∀ (n : Nat) (v : Int), 0 ≤ v → v < ((256 ^ n : Nat) : Int) → (val (u8s (le n v)) : Int) = v
  | 0, v, h1, h2 => by
    simp at h2
    simp [le, u8s, val]; omega
  | n + 1, v, h1, h2 => by
    have hp : (256 ^ (n + 1) : Nat) = 256 ^ n * 256 := by rw [Nat.pow_succ]
    have ih := val_le n (v / 256) (by omega) (by omega)
    have hu := u8_of v h1
    simp only [u8s] at ih
    simp only [le, u8s, List.map_cons, val, hu]
    omega

theorem le_val : ∀ (l : List UInt8), u8s (le l.length (val l : Int)) = l
  | [] => rfl
  | b :: r => by
    have ih := le_val r
    have hb : b.toNat < 256 := b.toNat_lt
    simp only [u8s] at ih
    simp only [List.length_cons, le, u8s, List.map_cons, val]
    have e1 : (((b.toNat + 256 * val r : Nat) : Int) % 256).toNat = b.toNat := by omega
    have e2 : ((b.toNat + 256 * val r : Nat) : Int) / 256 = (val r : Int) := by omega
    rw [e1, e2, ih]
    simp

theorem u8s_len (l : List Int) : (u8s l).length = l.length := by simp [u8s]

theorem rdS_enc : ∀ (ws vs e : List Int) (more : List UInt8), ws.all okW = true → ws.length = vs.length → enc ws vs = some e → rdS ws (u8s e ++ more) = vs
  | [], [], e, more, _, _, _ => rfl
  | [], _ :: _, _, _, _, h, _ => by simp at h
  | _ :: _, [], _, _, _, h, _ => by simp at h
  | w :: ws, v :: vs, e, more, hok, hl, h => by
    simp only [List.all_cons, Bool.and_eq_true] at hok
    simp only [enc] at h
    split at h
    · cases h
    · rename_i hv
      simp only [Option.map_eq_some_iff] at h
      obtain ⟨e2, h2, rfl⟩ := h
      have ih := rdS_enc ws vs e2 more hok.2 (by simpa using hl) h2
      have hlim := lim_pow w hok.1
      have e1 : (u8s (le w.toNat v ++ e2) ++ more).take w.toNat = u8s (le w.toNat v) := by
        rw [u8s_app, List.append_assoc, List.take_append_of_le_length (by simp [u8s, le_len]), List.take_of_length_le (by simp [u8s, le_len])]
      have e3 : (u8s (le w.toNat v ++ e2) ++ more).drop w.toNat = u8s e2 ++ more := by
        rw [u8s_app, List.append_assoc, List.drop_append_of_le_length (by simp [u8s, le_len]), List.drop_of_length_le (by simp [u8s, le_len])]
        rfl
      simp only [rdS, e1, e3, ih]
      rw [val_le w.toNat v (by omega) (by omega)]

theorem enc_rdS : ∀ (ws : List Int) (s : List UInt8), ws.all okW = true → ws.sum ≤ s.length → ∃ e, enc ws (rdS ws s) = some e ∧ u8s e = s.take ws.sum.toNat
  | [], s, _, _ => ⟨[], rfl, by simp [u8s]⟩
  | w :: ws, s, hok, hs => by
    simp only [List.all_cons, Bool.and_eq_true] at hok
    have hsum := sum_bound ws hok.2
    have hw := hok.1
    simp only [okW, Bool.or_eq_true, beq_iff_eq] at hw
    simp only [List.sum_cons] at hs
    obtain ⟨e, h1, h2⟩ := enc_rdS ws (s.drop w.toNat) hok.2 (by simp; omega)
    have hlim := lim_pow w hok.1
    have hlen : (s.take w.toNat).length = w.toNat := by simp; omega
    have hv := val_lt (s.take w.toNat)
    rw [hlen] at hv
    refine ⟨le w.toNat (val (s.take w.toNat) : Int) ++ e, ?_, ?_⟩
    · simp only [rdS, enc]
      rw [if_neg (by omega), h1]
      rfl
    · have h3 := le_val (s.take w.toNat)
      rw [hlen] at h3
      rw [u8s_app, h3, h2, List.sum_cons, show (w + ws.sum).toNat = w.toNat + ws.sum.toNat by omega, List.take_add]

end Go.Proofs.YtiodpeekbeahlaaGreatDoor.Abs
