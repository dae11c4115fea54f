/- The log: what the document says of recovering; which slabs may be opened. -/
import Derived.Test.YtiodpeekbeahlaaGreatDoorLogG
namespace Go.Proofs.YtiodpeekbeahlaaGreatDoor.Abs
open Go
set_option linter.unusedVariables false
attribute [-simp] List.getD_eq_getElem?_getD

theorem w2_drop (s : Blk) (j : Nat) : w2 (s.drop 1) j = w2 s (1 + j) := by
  have h : ∀ k, (s.drop 1).getD k 0 = s.getD (1 + k) 0 := fun k => by simp only [List.getD, List.getElem?_drop]
  unfold w2
  rw [h, h, Nat.add_assoc]

def bareC (h : Blk) (n : Nat) : Ch := (List.range n).map fun k => (w2 h (1 + 2 * k), wholeS [])

theorem right_keys {n : Nat} {c d : Ch} (hl : c.length = d.length) (hk : ∀ i, i < c.length → keyAt c i = keyAt d i) (hd : ∀ i, i < c.length → (c.getD i (0, [])).2.length = (d.getD i (0, [])).2.length) : rightS n c = rightS n d := by
  unfold rightS
  rw [← hl]
  have : ∀ i, i < c.length → okAt n c i = okAt n d i := fun i hi => by
    unfold okAt
    rw [hk i hi, hd i hi]
    have : ∀ j, dupAt c i j = dupAt d i j := fun j => by
      unfold dupAt
      rw [Bool.eq_iff_iff, List.any_eq_true, List.any_eq_true]
      constructor
      · rintro ⟨k, h1, h2⟩
        refine ⟨k, h1, ?_⟩
        rw [← hk k (by have := List.mem_range.1 h1; omega)]; exact h2
      · rintro ⟨k, h1, h2⟩
        refine ⟨k, h1, ?_⟩
        rw [hk k (by have := List.mem_range.1 h1; omega)]; exact h2
    rw [this]
  rw [Bool.eq_iff_iff, List.all_eq_true, List.all_eq_true]
  constructor
  · intro h i hi
    rw [← this i (List.mem_range.1 hi)]; exact h i hi
  · intro h i hi
    rw [this i (List.mem_range.1 hi)]; exact h i hi

theorem zeros_drop (s : Blk) (a : Nat) : (a < s.length → zeros (s.drop a) = ((s.getD a 0 == 0) && zeros (s.drop (a + 1)))) ∧ (s.length ≤ a → zeros (s.drop a) = true) := by
  constructor
  · intro h
    rw [List.drop_eq_getElem_cons h, getD_lt h]
    rfl
  · intro h
    rw [List.drop_of_length_le h]
    rfl

theorem refZeros (l : List Int) (c : Ch) (s : Blk) (n : Int) (hs : s.length ≤ 100000) : ∀ (m a : Nat), s.length = a + m → loopO wainwrightref11_Head.l2 ((l, c), s, n, (a : Int)) = some (if zeros (s.drop a) = true then .inl ((l, c), n) else .inr ([], false))
  | 0, a, h => by
    rw [(zeros_drop s a).2 (by omega), if_pos rfl]
    refine loopO_inr ?_
    unfold wainwrightref11_Head.l2
    simp only
    rw [if_neg (by rw [decide_eq_true_eq]; omega)]
  | m + 1, a, h => by
    rw [(zeros_drop s a).1 (by omega)]
    by_cases hb : s.getD a 0 = 0
    · have := refZeros l c s n hs m (a + 1) (by omega)
      rw [hb]
      simp only [BEq.rfl, Bool.true_and]
      rw [← this]
      refine loopO_inl ?_
      unfold wainwrightref11_Head.l2
      simp only
      rw [if_pos (by rw [decide_eq_true_eq]; omega), if_pos (by omega), getD_nat, hb, if_neg (by decide), wrap_succ (by omega)]
    · rw [if_neg (by simp [hb])]
      refine loopO_inr ?_
      unfold wainwrightref11_Head.l2
      simp only
      have h0 : ((s.getD a 0).toNat : Int) ≠ 0 := fun q => hb (UInt8.toNat_inj.1 (by simpa using q))
      rw [if_pos (by rw [decide_eq_true_eq]; omega), if_pos (by omega), getD_nat, if_pos (by simpa using h0)]

theorem refHead_is (h : Blk) (n : Nat) (hl : h.length = 128) : wainwrightref11_Head (h, (n : Int)) = some (
    if headN h > 40 then ([], false) else
    if zeros (h.drop (1 + 2 * headN h)) = true then ((bareC h (headN h)).map (·.1), rightS n (bareC h (headN h))) else ([], false)) := by
  have hN := (h.getD 0 0).toNat_lt
  unfold wainwrightref11_Head
  simp only
  rw [if_pos (by rw [hl]; rfl), if_pos (by omega), wrap64 (by omega) (by omega)]
  unfold headN
  generalize hNe : (h.getD 0 0).toNat = N at hN
  by_cases hb : N > 40
  · rw [if_pos (by rw [decide_eq_true_eq]; omega), if_pos hb]
  · rw [if_neg (by rw [decide_eq_true_eq]; omega), if_neg hb]
    have := loop_run (f := wainwrightref11_Head.l1) (fun i => (((bareC h i).map (·.1), bareC h i), h, (n : Int), (i : Int))) (n := N) (r := (((bareC h N).map (·.1), bareC h N), h, (n : Int))) (fun i hi => by
      have hbl : (bareC h i).length = i := by unfold bareC; simp
      unfold wainwrightref11_Head.l1
      simp only
      rw [if_pos (by omega), hNe, wrap64 (n := (N : Int)) (by omega) (by omega), if_pos (by rw [decide_eq_true_eq]; omega), wrap64 (n := 2 * (i : Int)) (by omega) (by omega), wrap64 (n := 1 + 2 * (i : Int)) (by omega) (by omega), if_pos (by omega), show (1 + 2 * (i : Int)).toNat = 1 + 2 * i by omega, refRead2 _ _ (by omega) (by omega), Option.bind_some]
      simp only
      rw [if_pos (by simp), if_pos (room (by decide) (by simp [hbl]; omega)), if_pos (by simp), refWhole_is, Option.bind_some, if_pos (room (by decide) (by simp [hbl]; omega)), wrap_succ (by omega)]
      have e : bareC h (i + 1) = bareC h i ++ [(w2 h (1 + 2 * i), wholeS [])] := by
        unfold bareC
        rw [List.range_succ, List.map_append]
        rfl
      rw [e, List.map_append]
      rfl) (by
      unfold wainwrightref11_Head.l1
      simp only
      rw [if_pos (by omega), hNe, wrap64 (n := (N : Int)) (by omega) (by omega), if_neg (by simp)])
    rw [show ((([], []), h, (n : Int), (0 : Int)) : (List Int × Ch) × Blk × Int × Int) = (((bareC h 0).map (·.1), bareC h 0), h, (n : Int), ((0 : Nat) : Int)) from rfl, this, Option.bind_some]
    simp only
    have hbl : (bareC h N).length = N := by unfold bareC; simp
    rw [List.length_map, hbl, wrap64 (n := 2 * (N : Int)) (by omega) (by omega), wrap64 (n := 1 + 2 * (N : Int)) (by omega) (by omega), show (1 + 2 * (N : Int)) = ((1 + 2 * N : Nat) : Int) by omega, refZeros _ _ _ _ (by omega) (128 - (1 + 2 * N)) (1 + 2 * N) (by omega), Option.bind_some]
    cases hz : zeros (h.drop (1 + 2 * N)) with
    | false => rfl
    | true =>
      rw [if_pos rfl]
      simp only
      rw [refRight_is _ _ (by omega), Option.bind_some]
      unfold mayS
      rw [hbl, if_neg hb]
      cases rightS n (bareC h N) <;> rfl

theorem readC_keys (xs : List Blk) : (bareC (xs.getD 1 []) (headN (xs.getD 1 []))).map (·.1) = (readC xs).map (·.1) := by
  unfold readC bareC
  rw [List.map_map, List.map_map]
  refine List.map_congr_left fun k _ => ?_
  simp only [Function.comp]
  rw [w2_drop]

theorem keyAt_map (c : Ch) (i : Nat) (hi : i < c.length) : keyAt c i = (c.map (·.1)).getD i 0 := by
  unfold keyAt
  rw [getD_lt hi, getD_lt (by simpa using hi), List.getElem_map]

theorem getD_map_range {α : Type} {n i : Nat} (f : Nat → α) (d : α) (hi : i < n) : ((List.range n).map f).getD i d = f i := by
  rw [getD_lt (by simpa using hi)]
  simp

theorem bare_right (n : Nat) (xs : List Blk) (h64 : 64 ≤ xs.length) (hh : headN (xs.getD 1 []) ≤ 40) (hb : ∀ b ∈ xs, b.length = 128) : rightS n (bareC (xs.getD 1 []) (headN (xs.getD 1 []))) = rightS n (readC xs) := by
  have hbl : (bareC (xs.getD 1 []) (headN (xs.getD 1 []))).length = headN (xs.getD 1 []) := by unfold bareC; simp
  refine right_keys (by rw [hbl, readC_len]) (fun i hi => ?_) (fun i hi => ?_)
  · rw [keyAt_map _ _ hi, readC_keys, ← keyAt_map _ _ (by rw [readC_len, ← hbl]; exact hi)]
  · rw [hbl] at hi
    unfold bareC readC
    rw [getD_map_range _ _ hi, getD_map_range _ _ hi]
    simp only
    rw [wholeS_len, getD_lt (by omega), hb _ (List.getElem_mem _)]

theorem read_fits {xs : List Blk} (h : (readS xs).2 = true) : rightS xs.length (readS xs).1 = true ∧ (readS xs).1 = readC xs ∧ headN (xs.getD 1 []) ≤ 40 ∧ zeros ((xs.getD 1 []).drop (1 + 2 * headN (xs.getD 1 []))) = true := by
  unfold readS at h ⊢
  by_cases k1 : headN (xs.getD 1 []) > 40
  · rw [if_pos k1] at h; cases h
  · rw [if_neg k1] at h ⊢
    by_cases k2 : zeros ((xs.getD 1 []).drop (1 + 2 * headN (xs.getD 1 []))) = true
    · rw [if_pos k2] at h ⊢
      exact ⟨h, rfl, by omega, k2⟩
    · rw [if_neg k2] at h; cases h

theorem recovered_is (xs : List Blk) (h1000 : xs.length ≤ 1000) (hb : ∀ b ∈ xs, b.length = 128) : wainwrightref11_Recovered xs = some (if 64 ≤ xs.length ∧ (readS xs).2 = true then (putS xs (readS xs).1, true) else ([], false)) := by
  unfold wainwrightref11_Recovered
  by_cases h64 : xs.length < 64
  · rw [if_pos (by rw [decide_eq_true_eq]; omega), if_neg (by omega)]
  · have hl : (xs.getD 1 []).length = 128 := by rw [getD_lt (by omega)]; exact hb _ (List.getElem_mem _)
    rw [if_neg (by rw [decide_eq_true_eq]; omega), if_pos (by omega), refHead_is _ _ hl, Option.bind_some]
    cases hr : (readS xs).2 with
    | false =>
      rw [if_neg (show ¬ (64 ≤ xs.length ∧ false = true) from fun q => by cases q.2)]
      have : (if headN (xs.getD 1 []) > 40 then (([] : List Int), false) else if zeros ((xs.getD 1 []).drop (1 + 2 * headN (xs.getD 1 []))) = true then ((bareC (xs.getD 1 []) (headN (xs.getD 1 []))).map (·.1), rightS xs.length (bareC (xs.getD 1 []) (headN (xs.getD 1 [])))) else ([], false)).2 = false := by
        unfold readS at hr
        by_cases k1 : headN (xs.getD 1 []) > 40
        · rw [if_pos k1]
        · rw [if_neg k1] at hr ⊢
          by_cases k2 : zeros ((xs.getD 1 []).drop (1 + 2 * headN (xs.getD 1 []))) = true
          · rw [if_pos k2] at hr ⊢
            simp only
            rw [bare_right _ _ (by omega) (by omega) hb]
            exact hr
          · rw [if_neg k2]
      generalize (if headN (xs.getD 1 []) > 40 then (([] : List Int), false) else _) = q at this
      obtain ⟨q1, q2⟩ := q
      simp only at this ⊢
      rw [this, if_pos (by rfl)]
    | true =>
      rw [if_pos (show 64 ≤ xs.length ∧ true = true from ⟨by omega, rfl⟩)]
      obtain ⟨r1, r2, r3, r4⟩ := read_fits hr
      rw [r2] at r1 ⊢
      have hfit := right_fits r1
      have hcl := readC_len xs
      rw [if_neg (by omega), if_pos r4, bare_right _ _ (by omega) (by omega) hb, r1]
      simp only
      rw [if_neg (by decide), readC_keys]
      have := loop_run (f := wainwrightref11_Recovered.l1) (fun i => ((readC xs).take i, xs, (readC xs).map (·.1), (i : Int))) (n := (readC xs).length) (r := (readC xs, xs)) (fun i hi => by
        have hg : xs.getD (IntKind.i64.wrap (2 + (i : Int))).toNat [] = ((readC xs).getD i (0, [])).2 := by
          rw [wrap64 (by omega) (by omega), show (2 + (i : Int)).toNat = 2 + i by omega]
          unfold readC
          rw [getD_map_range _ _ (by rw [← hcl]; exact hi)]
        have hk : ((readC xs).map (·.1)).getD i 0 = ((readC xs).getD i (0, [])).1 := (keyAt_map _ _ hi).symm
        unfold wainwrightref11_Recovered.l1
        simp only
        rw [if_pos (by simpa using hi), if_pos (by simpa using hi), hg, if_pos (by rw [wrap64 (by omega) (by omega)]; omega), if_pos (room (by decide) (by simp; omega)), wrap_succ (by omega), getD_nat, hk, take_succ_getD hi (0, [])]) (by
        unfold wainwrightref11_Recovered.l1
        simp only
        rw [if_neg (by simp), List.take_length])
      rw [show (([], xs, (readC xs).map (·.1), (0 : Int)) : Ch × List Blk × List Int × Int) = ((readC xs).take 0, xs, (readC xs).map (·.1), ((0 : Nat) : Int)) from rfl, this, Option.bind_some]
      simp only
      rw [refWith_is _ _ (fun x hx => ⟨(hfit x hx).1, (hfit x hx).2.1⟩) (by omega) (by omega)]
      rfl
end Go.Proofs.YtiodpeekbeahlaaGreatDoor.Abs
