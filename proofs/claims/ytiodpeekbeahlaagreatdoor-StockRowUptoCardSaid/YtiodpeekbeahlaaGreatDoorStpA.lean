/- Deals on a new disk: what is read and written. -/
import Derived.Test.YtiodpeekbeahlaaGreatDoorStpR
namespace Go.Proofs.YtiodpeekbeahlaaGreatDoor.Abs
open Go
set_option linter.unusedVariables false
attribute [-simp] List.getD_eq_getElem?_getD

def zeroS : Blk := List.replicate 128 0
theorem zero_len : zeroS.length = 128 := by unfold zeroS; simp
theorem whole_nil : wholeS [] = zeroS := rfl
theorem wholeS_id (b : Blk) (h : b.length = 128) : wholeS b = b := by
  unfold wholeS
  rw [List.take_of_length_le (by omega), h]
  simp
theorem wholeS_len (b : Blk) : (wholeS b).length = 128 := by
  unfold wholeS; simp; omega

theorem mg_mp (i : Int) (b : Blk) (j : Int) : ∀ es : Loo, mg (mp es i b) j = if j = i then some b else mg es j
  | [] => by
    rw [show mp [] i b = [(i, b)] from rfl, mg_cons]
  | e :: es => by
    rw [mp_cons]
    by_cases h : i = e.1
    · rw [if_pos h, mg_cons, mg_cons]
      by_cases h2 : j = i
      · rw [if_pos h2, if_pos h2]
      · rw [if_neg h2, if_neg h2, if_neg (by rw [← h]; exact h2)]
    · rw [if_neg h, mg_cons, mg_cons, mg_mp i b j es]
      by_cases h2 : j = e.1
      · rw [if_pos h2, if_pos h2, if_neg (by rw [h2]; exact fun q => h q.symm)]
      · rw [if_neg h2, if_neg h2]

theorem read_is (xs : List Blk) (c u i : Int) (h : 0 ≤ i ∧ i < (xs.length : Int)) : slab_Slab_Read ((xs, [], c, u), i) = some (xs.getD i.toNat []) := by
  unfold slab_Slab_Read slab_Slab_there
  simp only
  rw [if_pos (show decide (i ≥ 0) = true by rw [decide_eq_true_eq]; exact h.1), Option.bind_some, if_neg (by simp; omega), if_neg (by rw [show mget (K := I) (V := .str) ([] : Loo) i = none from rfl]; decide), if_pos h]

/-- The blocks of a new disk. -/
structure Base (n : Nat) (xs : List Blk) : Prop where
  len : xs.length = n
  room : 64 ≤ n ∧ n ≤ 400
  zero : ∀ i, i < n → xs.getD i [] = zeroS

set_option maxRecDepth 10000 in
theorem log_open0 {n : Nat} {xs : List Blk} (h : Base n xs) : log_Open ((0, -1), xs, []) = some (.inr (((0, -1), xs, [], false, 0), 0)) := by
  have hl := h.len
  have hr := h.room
  have hread : log_Log_read_2 ((false, 0), (0, -1), xs, []) = some (((false, 0), (0, -1), xs, []), [], true) := by
    unfold log_Log_read_2
    simp only
    rw [read_is xs 0 (-1) 1 (by omega), Option.bind_some, show (1 : Int).toNat = 1 from rfl, h.zero 1 (by omega)]
    rw [if_pos (by decide), show IntKind.i64.wrap (((zeroS.getD 0 0).toNat : Int)) = 0 from rfl, if_neg (by decide), slices_Repeat_int_int.le ([2], 0) [] (by kernel_rfl), Option.bind_some, if_pos (by decide), mould_Read.le ([], zeroS.drop 1) ([], 0) (by kernel_rfl), Option.bind_some]
    simp only
    rw [if_pos (by rfl), mould_Size.le [] 0 (by kernel_rfl), Option.bind_some, show IntKind.i64.wrap (1 + 0) = 1 from rfl, if_pos (by decide), show (1 : Int).toNat = 1 from rfl, strings_Trim.le (zeroS.drop 1, [0]) [] (by kernel_rfl), Option.bind_some, if_neg (by decide)]
    rw [loopO_inr (r := ((false, 0), (0, -1), xs, [], [])) (by
      unfold log_Log_read_2.l1
      simp only
      rw [if_neg (by decide)]), Option.bind_some]
    simp only
    unfold log_Log_right
    simp only
    rw [loopO_inr (r := .inl ()) (by
      unfold log_Log_right.l1
      simp only
      rw [if_neg (by decide)]), Option.bind_some]
    rfl
  unfold log_Open slab_Slab_Size
  simp only
  rw [Option.bind_some, if_neg (by rw [decide_eq_true_eq]; omega), hread, Option.bind_some]
  simp only
  rw [if_neg (by decide), if_neg (by simp)]

theorem new0 (n : Nat) (h : 64 ≤ n ∧ n ≤ 400) : ∃ xs, slab_New (n : Int) = some ((0, -1), xs, []) ∧ Base n xs := by
  refine ⟨List.replicate n zeroS, ?_, ⟨by simp, h, fun i hi => ?_⟩⟩
  · rw [new_is, Int.toNat_natCast, show min 1000 n = n by omega]
    rfl
  · rw [getD_lt (by simpa using hi)]
    simp

/-! ### Reading, writing -/

def thereS (n : Nat) (i : Int) : Bool := decide (0 ≤ i ∧ i < (n : Int) ∧ (i < 1 ∨ 41 < i))
def getS (es : Loo) (i : Int) : Blk := (mg es i).getD zeroS

theorem get_mp (es : Loo) (i : Int) (b : Blk) (j : Int) : getS (mp es i b) j = if j = i then b else getS es j := by
  unfold getS
  rw [mg_mp]
  by_cases h : j = i
  · rw [if_pos h, if_pos h]; rfl
  · rw [if_neg h, if_neg h]

variable {n : Nat} {xs : List Blk} (hB : Base n xs)
include hB

theorem there_d (es : Loo) (i : Int) : deal_written_there ((((xs, [], 0, -1), false, 0), es), i) = some (thereS n i) := by
  have hl := hB.len
  unfold deal_written_there log_Log_Size slab_Slab_Size thereS
  simp only
  by_cases h1 : i ≥ 0
  · rw [if_pos (by simpa using h1), Option.bind_some, Option.bind_some, hl]
    by_cases h2 : i < (n : Int)
    · rw [if_pos (by simpa using h2)]
      by_cases h3 : i < 1
      · rw [if_neg (by simpa using h3), decide_eq_true (show 0 ≤ i ∧ i < (n : Int) ∧ (i < 1 ∨ 41 < i) from ⟨h1, h2, .inl h3⟩)]
      · rw [if_pos (by simpa using h3)]
        congr 1
        exact decide_eq_decide.2 ⟨fun q => ⟨h1, h2, .inr q⟩, fun q => by omega⟩
    · rw [if_neg (by simpa using h2), decide_eq_false (by omega)]
  · rw [if_neg (by simpa using h1), decide_eq_false (by omega)]

theorem get_d (es : Loo) (i : Int) (hi : 0 ≤ i ∧ i < (n : Int)) : deal_written_get ((((xs, [], 0, -1), false, 0), es), i) = some (getS es i) := by
  have hl := hB.len
  have hm : mget (K := I) (V := .str) es i = mg es i := rfl
  unfold deal_written_get getS
  simp only
  rw [hm]
  cases mg es i with
  | some v => rfl
  | none =>
    rw [if_neg (by decide)]
    unfold log_Log_Read
    simp only
    rw [read_is xs 0 (-1) i (by omega), Option.bind_some, Option.bind_some, hB.zero i.toNat (by omega)]
    rfl

theorem read_d (es : Loo) (i : Int) (hi : thereS n i = true) : deal_Deal_Read_1 ((((xs, [], 0, -1), false, 0), es), i) = some (getS es i, 0) := by
  unfold deal_Deal_Read_1
  simp only
  rw [there_d hB, hi, Option.bind_some, if_neg (by decide)]
  unfold thereS at hi
  rw [decide_eq_true_eq] at hi
  rw [get_d hB es i (by omega)]
  rfl

theorem write_d (es : Loo) (i : Int) (data : Blk) (hd : data.length ≤ 128) (hi : thereS n i = true) : deal_Deal_Write_1 (((false, 0), es, (0, -1), xs, []), i, data) = some (((false, 0), mp es i (wholeS data), (0, -1), xs, []), 0) := by
  unfold deal_Deal_Write_1
  simp only
  rw [there_d hB, hi, Option.bind_some, if_neg (by decide), pad_is _ hd, Option.bind_some]
  simp only
  rw [if_neg (by decide)]
  unfold wholeS
  rw [List.take_of_length_le hd]
  rfl

omit hB
theorem begin2 (xs : List Blk) : deal_Begin_2 ((false, 0), (0, -1), xs, []) = some (((false, 0), (0, -1), xs, [], []), 0) := rfl
end Go.Proofs.YtiodpeekbeahlaaGreatDoor.Abs
