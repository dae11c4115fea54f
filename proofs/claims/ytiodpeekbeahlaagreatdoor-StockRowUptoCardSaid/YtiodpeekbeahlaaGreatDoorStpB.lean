/- Deals with a crown: blocks are taken and given back. -/
import Derived.Test.YtiodpeekbeahlaaGreatDoorStpK
namespace Go.Proofs.YtiodpeekbeahlaaGreatDoor.Abs
open Go
set_option linter.unusedVariables false
attribute [-simp] List.getD_eq_getElem?_getD

theorem crown_right {n : Nat} (h : 64 ≤ n ∧ n ≤ 400) : crown_Right (1, (n : Int), 0) = some true := by
  unfold crown_Right
  simp only
  rw [if_pos (decide_eq_false (by omega)), if_neg (by rw [decide_eq_true_eq]; omega), if_pos (by decide), Option.bind_some]
  rfl
theorem owned_is {n : Nat} (h : 64 ≤ n ∧ n ≤ 400) (i : Int) : crown_Owned ((1, (n : Int), 0), i) = some (decide (51 ≤ i ∧ i < (n : Int))) := by
  unfold crown_Owned
  simp only
  rw [crown_right h, Option.bind_some, if_pos rfl]
  by_cases h1 : i ≥ 51
  · rw [if_pos (by simpa using h1)]
    congr 1
    exact decide_eq_decide.2 ⟨fun q => ⟨h1, q⟩, fun q => q.2⟩
  · rw [if_neg (by simpa using h1), decide_eq_false (by omega)]

section
variable {n : Nat} {xs : List Blk} (hB : Base n xs)
include hB

theorem crown_d {es : Loo} (h0 : getS es 0 = crownB n) : deal_Deal_Crown_1 (((xs, [], 0, -1), false, 0), es) = some ((1, (n : Int), 0), 0) := by
  have hr := hB.room
  unfold deal_Deal_Crown_1
  simp only
  rw [get_d hB es 0 (by omega), Option.bind_some, h0, crown_r hr, Option.bind_some]
  simp only
  rw [if_pos (by decide)]
  unfold log_Log_Size slab_Slab_Size
  simp only
  rw [Option.bind_some, Option.bind_some, hB.len, if_neg (by simp)]

theorem there_42 : thereS n 42 = true := by
  have hr := hB.room
  unfold thereS
  rw [decide_eq_true_eq]
  omega
theorem there_i {i : Int} (h : i = 0 ∨ 42 ≤ i ∧ i < (n : Int)) : thereS n i = true := by
  have hr := hB.room
  unfold thereS
  rw [decide_eq_true_eq]
  omega

theorem open_d {es : Loo} (h0 : getS es 0 = crownB n) : stock_open_1 ((false, 0), es, (0, -1), xs, []) = some (.inr (((false, 0), es, (0, -1), xs, [], 1, (n : Int), 0, getS es 42), 0)) := by
  unfold stock_open_1
  simp only
  rw [crown_d hB h0, Option.bind_some]
  simp only
  rw [if_neg (by decide), read_d hB es 42 (there_42 hB), Option.bind_some]
  simp only
  rw [if_neg (by decide)]

theorem setCrown_d (es : Loo) : deal_Deal_SetCrown_1 (((false, 0), es, (0, -1), xs, []), 1, (n : Int), 0) = some (((false, 0), mp es 0 (crownB n), (0, -1), xs, []), 0) := by
  have hr := hB.room
  unfold deal_Deal_SetCrown_1 log_Log_Size slab_Slab_Size
  simp only
  rw [Option.bind_some, Option.bind_some, hB.len, if_neg (by simp), crown_w hr, Option.bind_some]
  simp only
  rw [if_neg (by decide), write_d hB es 0 _ (by rw [crown_len]; omega) (there_i hB (.inl rfl)), Option.bind_some, wholeS_id _ (crown_len n)]

/-! ### Blocks are taken -/

omit hB in
/-- So many blocks have been written. -/
def esU (es : Loo) (a : Nat) : Nat → Loo
  | 0 => es
  | k + 1 => mp (esU es a k) ((a + k : Nat) : Int) zeroS

omit hB in
theorem esU_get (es : Loo) (a : Nat) : ∀ k (j : Int), getS (esU es a k) j = if (a : Int) ≤ j ∧ j < ((a + k : Nat) : Int) then zeroS else getS es j
  | 0, j => by rw [if_neg (by omega)]; rfl
  | k + 1, j => by
    rw [esU, get_mp, esU_get es a k j]
    by_cases h : j = ((a + k : Nat) : Int)
    · rw [if_pos h, if_pos (by omega)]
    · rw [if_neg h]
      by_cases h2 : (a : Int) ≤ j ∧ j < ((a + k : Nat) : Int)
      · rw [if_pos h2, if_pos (by omega)]
      · rw [if_neg h2, if_neg (by omega)]

theorem use_d (es : Loo) (m : Blk) (a k : Nat) (hm : m.length = 128) (h1 : 51 ≤ a) (h2 : a + k ≤ n) :
    stock_store_use_1 (((1, (n : Int), 0, m), (false, 0), es, (0, -1), xs, []), (a : Int), (k : Int)) =
      some (((1, (n : Int), 0, taken m a k), (false, 0), mp (esU es a k) 42 (taken m a k), (0, -1), xs, []), 0) := by
  have hr := hB.room
  have := loop_run (f := stock_store_use_1.l1) (fun j => (((1, (n : Int), 0, taken m a j), (false, 0), esU es a j, (0, -1), xs, []), (a : Int), (k : Int), ((a + j : Nat) : Int))) (n := k) (r := .inl ((1, (n : Int), 0, taken m a k), (false, 0), esU es a k, (0, -1), xs, [])) (fun j hj => by
    unfold stock_store_use_1.l1
    simp only
    rw [if_pos (by rw [wrap64 (by omega) (by omega), decide_eq_true_eq]; omega), Set_is _ _ _ (by rw [taken_len]; omega), Option.bind_some, write_d hB _ _ [] (by simp) (there_i hB (.inr (by omega))), Option.bind_some]
    simp only
    rw [if_neg (by decide), wrap_succ (by omega)]
    rfl) (by
    unfold stock_store_use_1.l1
    simp only
    rw [if_neg (by rw [wrap64 (by omega) (by omega), decide_eq_true_eq]; omega)])
  unfold stock_store_use_1
  simp only
  rw [show (((1, (n : Int), 0, m), (false, 0), es, (0, -1), xs, []), (a : Int), (k : Int), (a : Int)) = ((((1, (n : Int), 0, taken m a 0), (false, 0), esU es a 0, (0, -1), xs, []), (a : Int), (k : Int), ((a + 0 : Nat) : Int)) : ((Int × Int × Int × Blk) × (Bool × Int) × Loo × (Int × Int) × List Blk × Loo) × Int × Int × Int) from rfl, this, Option.bind_some]
  simp only
  rw [write_d hB _ 42 _ (by rw [taken_len]; omega) (there_42 hB), Option.bind_some, wholeS_id _ (by rw [taken_len]; exact hm)]

theorem run_d {es : Loo} (h0 : getS es 0 = crownB n) (hm : (getS es 42).length = 128) {b : Nat} (hb : IsBest (getS es 42) n b) (c : Int) (hc : c < 9223372036854775808) :
    stock_Run_1 (((false, 0), es, (0, -1), xs, []), c) = some (
      if c < 1 then (((false, 0), es, (0, -1), xs, []), 0, 0, 1) else
      if (rowS (getS es 42) n b c).2 = 0 then (((false, 0), es, (0, -1), xs, []), 0, 0, 10) else
      (((false, 0), mp (esU es (rowS (getS es 42) n b c).1 (rowS (getS es 42) n b c).2) 42 (taken (getS es 42) (rowS (getS es 42) n b c).1 (rowS (getS es 42) n b c).2), (0, -1), xs, []), ((rowS (getS es 42) n b c).1 : Int), ((rowS (getS es 42) n b c).2 : Int), 0)) := by
  have hr := hB.room
  unfold stock_Run_1
  simp only
  rw [open_d hB h0, Option.bind_some]
  simp only
  rw [if_neg (by decide)]
  by_cases h1 : c < 1
  · rw [if_pos (by simpa using h1), if_pos h1]
  · rw [if_neg (by simpa using h1), if_neg h1, row_is _ n b c hm hr.2 hb (by omega) hc, Option.bind_some]
    simp only
    have hs := rowS_spec hb (c := c) (by omega)
    generalize rowS (getS es 42) n b c = q at hs
    obtain ⟨a, k⟩ := q
    simp only at hs ⊢
    by_cases hk : k = 0
    · rw [if_pos (by rw [hk]; rfl), if_pos hk]
    · rw [if_neg (by simpa using hk), if_neg hk, use_d hB es _ a k hm (by omega) (by omega), Option.bind_some]

theorem drop_d {es : Loo} (h0 : getS es 0 = crownB n) (hm : (getS es 42).length = 128) (i : Int) :
    stock_Drop_1 (((false, 0), es, (0, -1), xs, []), i) = some (
      if (51 ≤ i ∧ i < (n : Int)) ∧ isM (getS es 42) i = true then (((false, 0), mp es 42 (setM (getS es 42) i false), (0, -1), xs, []), 0) else (((false, 0), es, (0, -1), xs, []), 15)) := by
  have hr := hB.room
  unfold stock_Drop_1
  simp only
  rw [open_d hB h0, Option.bind_some]
  simp only
  rw [if_neg (by decide), owned_is hr, Option.bind_some]
  by_cases h1 : 51 ≤ i ∧ i < (n : Int)
  · rw [decide_eq_true h1, if_pos (by decide), Is_is _ _ (by omega), Option.bind_some]
    cases hi : isM (getS es 42) i with
    | false => rw [if_pos (by decide), if_neg (fun q => by cases q.2)]
    | true =>
      rw [if_neg (by decide), if_pos ⟨h1, rfl⟩, Set_is _ _ _ (by omega), Option.bind_some, write_d hB _ 42 _ (by rw [setM_len]; omega) (there_42 hB), Option.bind_some, wholeS_id _ (by rw [setM_len]; exact hm)]
  · rw [decide_eq_false h1, if_neg (by decide), if_neg (fun q => h1 q.1)]

theorem free_d {es : Loo} (h0 : getS es 0 = crownB n) (hm : (getS es 42).length = 128) :
    stock_Free_1 ((false, 0), es, (0, -1), xs, []) = some (((false, 0), es, (0, -1), xs, []), (n : Int) - (cnt (lowM (getS es 42)) n : Int), 0) := by
  have hr := hB.room
  unfold stock_Free_1
  simp only
  rw [open_d hB h0, Option.bind_some]
  simp only
  obtain ⟨_, _, _, l2, _⟩ := lim_is (n : Int)
  have hlim : lim (n : Int) = n := by have := l2 (by omega) (by omega); omega
  have hc := cnt_le (lowM (getS es 42)) n
  rw [if_neg (by decide), stockLow_is _ hm, Option.bind_some, Count_is _ _ (by rw [low_len]; omega), Option.bind_some, hlim, wrap64 (by omega) (by omega)]
end

/-! ### The document's deal -/

section
variable {n : Nat} (hr : 64 ≤ n ∧ n ≤ 400)
include hr

theorem refThere_d {now base : List Blk} (hl : now.length = n) {i : Int} (h : i = 0 ∨ 42 ≤ i ∧ i < (n : Int)) : wainwrightref12_Deal_there ((base, now), i) = some true := by
  unfold wainwrightref12_Deal_there
  simp only
  rw [if_pos (by rw [decide_eq_true_eq]; omega), if_pos (by rw [decide_eq_true_eq, hl]; omega)]
  by_cases h3 : i < 1
  · rw [if_neg (by simpa using h3)]
  · rw [if_pos (by simpa using h3), decide_eq_true (by omega)]

theorem refWrite_d {now base : List Blk} (hl : now.length = n) {i : Int} (h : i = 0 ∨ 42 ≤ i ∧ i < (n : Int)) (data : Blk) (hd : data.length ≤ 128) :
    wainwrightref12_Deal_Write ((base, now), i, data) = some ((base, now.set i.toNat (wholeS data)), 0) := by
  unfold wainwrightref12_Deal_Write
  simp only
  rw [refThere_d hr hl h, Option.bind_some, if_pos (by decide), if_neg (by rw [decide_eq_true_eq]; omega), refWhole_is, Option.bind_some, if_pos (by rw [hl]; omega)]

theorem refSetCrown_d {now base : List Blk} (hl : now.length = n) : wainwrightref12_Deal_SetCrown ((base, now), 1, (n : Int), 0) = some ((base, now.set 0 (crownB n)), 0) := by
  unfold wainwrightref12_Deal_SetCrown
  simp only
  rw [refCrown_w hr, Option.bind_some]
  simp only
  rw [if_pos (by decide), if_neg (by rw [decide_eq_true_eq, hl]; omega), if_pos (by rw [hl]; omega)]
end

/-! ### The marks of a new disk -/

def marksU (n : Nat) : Nat → Blk
  | 0 => zeroS
  | i + 1 => if i < 51 ∨ n ≤ i then setM (marksU n i) (i : Int) true else marksU n i

theorem marksU_len (n : Nat) : ∀ i, (marksU n i).length = 128
  | 0 => zero_len
  | i + 1 => by
    rw [marksU]
    split
    · rw [setM_len, marksU_len n i]
    · exact marksU_len n i

theorem zero_free : ((List.range 1024).all fun i => !isM zeroS (i : Int)) = true := by kernel_rfl

theorem marksU_is (n : Nat) : ∀ i, i ≤ 1024 → ∀ q : Nat, q < 1024 → isM (marksU n i) (q : Int) = decide (q < i ∧ (q < 51 ∨ n ≤ q))
  | 0, _, q, hq => by
    have := List.all_eq_true.1 zero_free q (List.mem_range.2 hq)
    rw [decide_eq_false (by omega), show marksU n 0 = zeroS from rfl]
    simpa using this
  | i + 1, hi, q, hq => by
    have ih := marksU_is n i (by omega) q hq
    have hl := marksU_len n i
    rw [marksU]
    by_cases h : i < 51 ∨ n ≤ i
    · rw [if_pos h, isM_set _ _ _ _ (by rw [hl]; omega), ih]
      by_cases e : (q : Int) = (i : Int)
      · rw [if_pos e, decide_eq_true (by omega)]
      · rw [if_neg e]
        exact decide_eq_decide.2 (by omega)
    · rw [if_neg h, ih]
      exact decide_eq_decide.2 (by omega)

def marksB (n : Nat) : Blk := marksU n 1024

theorem marks_is (n : Nat) : wainwrightref10_Marks (n : Int) = some (marksB n) := by
  have := loop_run (f := wainwrightref10_Marks.l1) (fun i => ((n : Int), marksU n i, (i : Int))) (n := 1024) (r := marksB n) (fun i hi => by
    have hl := marksU_len n i
    unfold wainwrightref10_Marks.l1
    simp only
    rw [if_pos (by rw [decide_eq_true_eq]; omega)]
    by_cases h1 : i < 51
    · rw [if_neg (by simp; omega), Option.bind_some]
      simp only
      rw [if_pos trivial, refSet_is _ _ _ (by omega), Option.bind_some, wrap_succ (by omega), marksU, if_pos (.inl h1)]
    · rw [if_pos (decide_eq_false (by omega)), Option.bind_some]
      simp only
      by_cases h2 : n ≤ i
      · rw [if_pos (by rw [decide_eq_true_eq]; omega), refSet_is _ _ _ (by omega), Option.bind_some, wrap_succ (by omega), marksU, if_pos (.inr h2)]
      · rw [if_neg (by rw [decide_eq_true_eq]; omega), wrap_succ (by omega), marksU, if_neg (by omega)]) (by
    unfold wainwrightref10_Marks.l1
    simp only
    rw [if_neg (by decide)]
    rfl)
  unfold wainwrightref10_Marks
  rw [refWhole_is, Option.bind_some, whole_nil, show ((n : Int), zeroS, (0 : Int)) = ((n : Int), marksU n 0, ((0 : Nat) : Int)) from rfl, this]
  rfl

/-! ### A new disk's deal -/

def bigM (n : Nat) (m : Blk) : Blk := if m = [] then marksB n else m.take 128
theorem big_take (n : Nat) (m : Blk) : (if m = [] then marksB n else m).take 128 = bigM n m := by
  unfold bigM
  split
  · rw [List.take_of_length_le]
    unfold marksB
    rw [marksU_len]
    exact Nat.le_refl _
  · rfl
theorem big_len (n : Nat) (m : Blk) : (bigM n m).length ≤ 128 := by
  unfold bigM
  split
  · unfold marksB; rw [marksU_len]; exact Nat.le_refl _
  · simp; omega

def es0 (n : Nat) (m : Blk) : Loo := mp (mp [] 0 (crownB n)) 42 (wholeS (bigM n m))

theorem begin_is {n : Nat} (hr : 64 ≤ n ∧ n ≤ 400) (m : Blk) : ∃ xs, Base n xs ∧ wainwrightlaw13_begin ((n : Int), m) = some (.inr (.inr ((false, 0), es0 n m, xs, (xs.set 0 (crownB n)).set 42 (wholeS (bigM n m)), (0, -1), xs, []))) := by
  obtain ⟨xs, h1, hB⟩ := new0 n hr
  refine ⟨xs, hB, ?_⟩
  have hl := hB.len
  have hok : Okay n 0 ((0, -1), xs, []) := ⟨hl, by omega, by simp, (fun e he => by cases he), by simp, by simp⟩
  unfold wainwrightlaw13_begin
  simp only
  rw [h1, Option.bind_some]
  simp only
  rw [log_open0 hB, Option.bind_some]
  simp only
  rw [if_neg (by decide), begin2, Option.bind_some]
  simp only
  rw [if_neg (by decide)]
  have hmk : (if (m == []) = true then (wainwrightref10_Marks (n : Int)).bind fun r31a => some ((((((0 : Int), (-1 : Int)), xs, ([] : Loo), ((false, (0 : Int)) : Bool × Int), ([] : Loo)), (n : Int), r31a)) : ((Int × Int) × List Blk × Loo × (Bool × Int) × Loo) × Int × Blk) else some ((((((0 : Int), (-1 : Int)), xs, ([] : Loo), ((false, (0 : Int)) : Bool × Int), ([] : Loo)), (n : Int), m)) : ((Int × Int) × List Blk × Loo × (Bool × Int) × Loo) × Int × Blk)) = some ((((0, -1), xs, [], (false, 0), []), (n : Int), if m = [] then marksB n else m)) := by
    by_cases h : m = []
    · rw [if_pos (by simpa using h), if_pos h, marks_is]
      rfl
    · rw [if_neg (by simpa using h), if_neg h]
  rw [hmk, Option.bind_some]
  simp only
  rw [hok.image, Option.bind_some]
  simp only
  rw [image_nil]
  unfold wainwrightref12_Begin
  rw [if_pos (room (by decide) (by simp; omega)), if_pos (room (by decide) (by simp; omega)), Option.bind_some]
  simp only
  rw [setCrown_d hB, Option.bind_some]
  simp only
  rw [if_pos (by decide)]
  have hmin : ∀ m : Blk, (if 128 < (m.length : Int) then 128 else (m.length : Int)) = ((min 128 m.length : Nat) : Int) ∧ m.take (min 128 m.length) = m.take 128 := fun m => ⟨by
    by_cases h : 128 < (m.length : Int)
    · rw [if_pos h]; omega
    · rw [if_neg h]; omega, by rw [← List.take_take, List.take_length]⟩
  have hbt := big_take n m
  generalize (if m = [] then marksB n else m) = mm at hbt
  rw [(hmin mm).1, if_pos (by omega), Int.toNat_natCast, (hmin mm).2, hbt, write_d hB _ 42 _ (big_len n m) (there_42 hB), Option.bind_some]
  simp only
  rw [if_neg (by decide), List.nil_append, refSetCrown_d hr hl, Option.bind_some]
  simp only
  rw [if_pos (by omega), refWrite_d hr (by rw [List.length_set]; exact hl) (.inr (by omega)) _ (big_len n m), Option.bind_some]
  rfl
end Go.Proofs.YtiodpeekbeahlaaGreatDoor.Abs
