/- The log: opening. -/
import Derived.Test.YtiodpeekbeahlaaGreatDoorLogE
namespace Go.Proofs.YtiodpeekbeahlaaGreatDoor.Abs
open Go
set_option linter.unusedVariables false
attribute [-simp] List.getD_eq_getElem?_getD

theorem read_is (xs : List Blk) (c u i : Int) (h : 0 ≤ i ∧ i < (xs.length : Int)) : slab_Slab_Read ((xs, [], c, u), i) = some (xs.getD i.toNat []) := by
  unfold slab_Slab_Read slab_Slab_there
  simp only
  rw [if_pos (show decide (i ≥ 0) = true by rw [decide_eq_true_eq]; exact h.1), Option.bind_some, if_neg (by simp; omega), if_neg (by rw [show mget (K := I) (V := .str) ([] : Loo) i = none from rfl]; decide), if_pos h]

def headN (h : Blk) : Nat := (h.getD 0 0).toNat
def readC (xs : List Blk) : Ch := (List.range (headN (xs.getD 1 []))).map fun k => (w2 ((xs.getD 1 []).drop 1) (2 * k), xs.getD (2 + k) [])
/-- What the head says. -/
def readS (xs : List Blk) : Ch × Bool :=
  if headN (xs.getD 1 []) > 40 then ([], false) else
  if zeros ((xs.getD 1 []).drop (1 + 2 * headN (xs.getD 1 []))) = true then (readC xs, rightS xs.length (readC xs)) else ([], false)

theorem readC_len (xs : List Blk) : (readC xs).length = headN (xs.getD 1 []) := by unfold readC; simp

theorem log_read (p : Bool × Int) (c : Int) (xs : List Blk) (h64 : 64 ≤ xs.length) (h1000 : xs.length ≤ 1000) (hl : (xs.getD 1 []).length = 128) :
    log_Log_read_2 (p, (c, -1), xs, []) = some ((p, (c, -1), xs, []), (readS xs).1, (readS xs).2) := by
  obtain ⟨p1, p2⟩ := p
  have hn := ((xs.getD 1 []).getD 0 0).toNat_lt
  unfold log_Log_read_2
  simp only
  rw [read_is xs c (-1) 1 (by omega), Option.bind_some, show (1 : Int).toNat = 1 from rfl]
  unfold readS headN
  have hread : ∀ k : Nat, k < 40 → slab_Slab_Read ((xs, [], c, -1), IntKind.i64.wrap (2 + (k : Int))) = some (xs.getD (2 + k) []) := fun k hk => by
    rw [wrap64 (by omega) (by omega), read_is xs c (-1) _ (by omega), show (2 + (k : Int)).toNat = 2 + k by omega]
  have hRC : readC xs = (List.range ((xs.getD 1 []).getD 0 0).toNat).map fun k => (w2 ((xs.getD 1 []).drop 1) (2 * k), xs.getD (2 + k) []) := rfl
  generalize xs.getD 1 [] = h at hl hn hRC
  rw [if_pos (by omega), wrap64 (by omega) (by omega)]
  generalize hN : (h.getD 0 0).toNat = N at hn hRC
  by_cases hb : N > 40
  · rw [if_pos (by rw [decide_eq_true_eq]; omega), if_pos hb]
  · rw [if_neg (by rw [decide_eq_true_eq]; omega), if_neg hb, repeat2 _ (by omega), Option.bind_some, if_pos (by omega), read2 _ _ (by omega) (by simp; omega) (by simp; omega), Option.bind_some]
    simp only
    rw [if_pos (by rfl), size2 _ (by omega), Option.bind_some, wrap64 (n := 1 + ((2 * N : Nat) : Int)) (by omega) (by omega), if_pos (by omega), show (1 + ((2 * N : Nat) : Int)).toNat = 1 + 2 * N by omega]
    obtain ⟨r, hr1, hr2⟩ := trim_is (h.drop (1 + 2 * N)) (by simp; omega)
    rw [hr1, Option.bind_some, hr2]
    cases hz : zeros (h.drop (1 + 2 * N)) with
    | false => rw [if_pos (by rfl), if_neg (by simp)]
    | true =>
      rw [if_neg (by decide), if_pos rfl]
      have := loop_run (f := log_Log_read_2.l1) (fun i => (((p1, p2), (c, -1), xs, [], (List.range i).map fun k => (w2 (h.drop 1) (2 * k), xs.getD (2 + k) [])), nums (h.drop 1) N, ((nums (h.drop 1) N).length : Int), (i : Int))) (n := N) (r := ((p1, p2), (c, -1), xs, [], readC xs)) (fun i hi => by
        unfold log_Log_read_2.l1
        simp only
        rw [nums_len, if_pos (by simpa using hi), if_pos (by omega), hread i (by omega), Option.bind_some, if_pos (room (by decide) (by simp; omega)), wrap_succ (by omega), getD_nat, List.range_succ, List.map_append]
        have : (nums (h.drop 1) N).getD i 0 = w2 (h.drop 1) (2 * i) := by
          rw [getD_lt (by rw [nums_len]; exact hi)]
          unfold nums
          simp
        rw [this]
        rfl) (by
        unfold log_Log_read_2.l1
        simp only
        rw [nums_len, if_neg (by simp), hRC])
      rw [show (((p1, p2), (c, -1), xs, [], []), nums (h.drop 1) N, ((nums (h.drop 1) N).length : Int), (0 : Int)) = ((((p1, p2), (c, -1), xs, [], (List.range 0).map fun k => (w2 (h.drop 1) (2 * k), xs.getD (2 + k) [])), nums (h.drop 1) N, ((nums (h.drop 1) N).length : Int), ((0 : Nat) : Int)) : ((Bool × Int) × (Int × Int) × List Blk × Loo × Ch) × List Int × Int × Int) from rfl, this, Option.bind_some]
      simp only
      rw [right_is _ _ _ (by rw [hRC]; simp; omega), Option.bind_some]

/-- What opening does. -/
theorem log_open {n m : Nat} {c : Int} {xs : List Blk} (h : Okay n m ((c, -1), xs, [])) (hm : m + 100 ≤ 100000) (hl : (xs.getD 1 []).length = 128 ∨ n < 64) :
    log_Open ((c, -1), xs, []) = some (
      if n < 64 then .inl (((c, -1), xs, []), 1) else
      if (readS xs).2 = false then .inl (((c, -1), xs, []), 15) else
      if (readS xs).1 = [] then .inr (((c, -1), xs, [], false, 0), 0) else
      .inr (((c + (readS xs).1.length + 3, -1), (putS xs (readS xs).1).set 1 zeroS, [], false, 0), 0)) ∧
    (64 ≤ n → (readS xs).2 = true → Okay n (m + 50) ((c + (readS xs).1.length + 3, -1), (putS xs (readS xs).1).set 1 zeroS, [])) := by
  have hf := h.firm
  have hr := h.room
  simp only at hf
  unfold log_Open slab_Slab_Size
  simp only
  rw [Option.bind_some, hf]
  by_cases h64 : n < 64
  · rw [if_pos (by rw [decide_eq_true_eq]; omega), if_pos h64]
    exact ⟨rfl, fun q => by omega⟩
  · rw [if_neg (by rw [decide_eq_true_eq]; omega), if_neg h64, log_read (false, 0) c xs (by omega) (by omega) (hl.resolve_right h64), Option.bind_some]
    simp only
    cases hb : (readS xs).2 with
    | false => exact ⟨by rw [if_pos (by rfl), if_pos rfl], fun _ q => by cases q⟩
    | true =>
      have hfit : fits n (readS xs).1 ∧ (readS xs).1.length ≤ 40 := by
        unfold readS at hb ⊢
        by_cases k1 : headN (xs.getD 1 []) > 40
        · rw [if_pos k1] at hb; cases hb
        · rw [if_neg k1] at hb ⊢
          by_cases k2 : zeros ((xs.getD 1 []).drop (1 + 2 * headN (xs.getD 1 []))) = true
          · rw [if_pos k2] at hb ⊢
            rw [hf] at hb
            exact ⟨right_fits hb, by rw [readC_len]; omega⟩
          · rw [if_neg k2] at hb; cases hb
      obtain ⟨w, o⟩ := log_apply (p := (false, 0)) h (by omega) hfit.1 (by omega)
      refine ⟨?_, fun _ _ => o.mono (by omega) (by omega)⟩
      rw [if_neg (by decide), if_neg (show ¬ (true = false) by decide)]
      by_cases he : (readS xs).1 = []
      · rw [if_neg (by rw [he]; decide), if_pos he]
      · have : 0 < (readS xs).1.length := List.length_pos_iff.2 he
        rw [if_pos (by rw [decide_eq_true_eq]; omega), if_neg he, w, Option.bind_some]
        rfl

theorem readS_zero {xs : List Blk} (h : xs.getD 1 [] = zeroS) : readS xs = ([], true) := by
  unfold readS readC
  rw [h]
  rfl
end Go.Proofs.YtiodpeekbeahlaaGreatDoor.Abs
