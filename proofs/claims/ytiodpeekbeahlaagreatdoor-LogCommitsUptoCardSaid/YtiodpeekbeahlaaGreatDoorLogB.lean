/- The log's records: block numbers of two bytes each, noughts that are trimmed. -/
import Derived.Test.YtiodpeekbeahlaaGreatDoorSlabC
import Derived.Test.YtiodpeekbeahlaaGreatDoorAbsPlain
namespace Go.Proofs.YtiodpeekbeahlaaGreatDoor.Abs
open Go
set_option linter.unusedVariables false
attribute [-simp] List.getD_eq_getElem?_getD

theorem repl_getD {α : Type} (n i : Nat) (a d : α) (h : i < n) : (List.replicate n a).getD i d = a := by
  rw [getD_lt (by simpa using h)]; simp

/-! ### Widths -/

theorem size2 (n : Nat) (h : n ≤ 1000) : mould_Size (List.replicate n 2) = some ((2 * n : Nat) : Int) := by
  have := loop_run (f := mould_Size.l1) (fun i => (((2 * i : Nat) : Int), List.replicate n (2 : Int), (n : Int), (i : Int))) (n := n) (r := .inl ((2 * n : Nat) : Int)) (fun i hi => by
    unfold mould_Size.l1
    simp only
    rw [if_pos (by simpa using hi), if_pos (by simp; omega), getD_nat, repl_getD n i 2 0 hi, if_neg (by decide), if_pos (by decide), wrap_succ (by omega), wrap64 (by omega) (by omega)]
    simp only [Option.some.injEq, Sum.inl.injEq, Prod.mk.injEq, and_true]
    omega) (by
    unfold mould_Size.l1
    simp)
  unfold mould_Size
  rw [List.length_replicate, show ((0 : Int), List.replicate n (2 : Int), (n : Int), (0 : Int)) = (((2 * 0 : Nat) : Int), List.replicate n (2 : Int), (n : Int), ((0 : Nat) : Int)) from rfl, this]
  rfl

theorem repeat2 (n : Nat) (h : n ≤ 40) : slices_Repeat_int_int ([2], (n : Int)) = some (List.replicate n 2) := by
  have hall : ((List.range 41).all fun n => decide (slices_Repeat_int_int.e ([2], (n : Int)) = some (List.replicate n (2 : Int)))) = true := by kernel_rfl
  have := List.all_eq_true.1 hall n (List.mem_range.2 (by omega))
  exact slices_Repeat_int_int.le ([2], (n : Int)) _ (of_decide_eq_true this)

/-! ### Writing -/

def le2I (b : Int) : List Int := [IntKind.u8.wrap b, IntKind.u8.wrap (Int.fdiv b (2 ^ 8))]
def le2 (b : Int) : List UInt8 := (le2I b).map fun (n : Int) => UInt8.ofNat n.toNat

theorem write_l2 (b : List Int) (ws : List Int) (v : Int) (t : List Int) (tl i : Int) (hb : b.length ≤ 1000) :
    loopO mould_Write.l2 (b, ws, v, 2, t, tl, i) = some (b ++ le2I v, ws, t, tl, i) := by
  have s1 : mould_Write.l2 (b, ws, v, 2, t, tl, i) = some (.inl (b ++ [IntKind.u8.wrap v], ws, Int.fdiv v (2 ^ 8), 1, t, tl, i)) := by
    unfold mould_Write.l2
    simp only
    rw [if_pos (by decide), if_pos (room (by decide) (by simp; omega))]
    rfl
  have s2 : mould_Write.l2 (b ++ [IntKind.u8.wrap v], ws, Int.fdiv v (2 ^ 8), 1, t, tl, i) = some (.inl (b ++ [IntKind.u8.wrap v] ++ [IntKind.u8.wrap (Int.fdiv v (2 ^ 8))], ws, Int.fdiv (Int.fdiv v (2 ^ 8)) (2 ^ 8), 0, t, tl, i)) := by
    unfold mould_Write.l2
    simp only
    rw [if_pos (by decide), if_pos (room (by decide) (by simp; omega))]
    rfl
  rw [loopO_inl s1, loopO_inl s2]
  refine loopO_inr ?_
  unfold mould_Write.l2
  simp only
  rw [if_neg (by decide), List.append_assoc]
  rfl

theorem take_flatMap_len (bs : List Int) (i : Nat) : ((bs.take i).flatMap le2I).length ≤ 2 * i := by
  have e : ∀ l : List Int, (l.flatMap le2I).length = 2 * l.length := fun l => by
    induction l with
    | nil => rfl
    | cons a l ih => rw [List.flatMap_cons, List.length_append, ih]; simp [le2I]; omega
  rw [e]; simp; omega

theorem write2 (bs : List Int) (hl : bs.length ≤ 40) (h : ∀ b ∈ bs, 0 ≤ b ∧ b < 65536) : mould_Write (List.replicate bs.length 2, bs) = some (bs.flatMap le2, 0) := by
  have := loop_run (f := mould_Write.l1) (fun i => ((bs.take i).flatMap le2I, List.replicate bs.length (2 : Int), bs, (bs.length : Int), (i : Int))) (n := bs.length) (r := .inl (bs.flatMap le2I)) (fun i hi => by
    have hb := h (bs.getD i 0) (by rw [getD_lt hi]; exact List.getElem_mem hi)
    have hlen := take_flatMap_len bs i
    unfold mould_Write.l1
    simp only
    rw [if_pos (by simpa using hi), if_pos (by omega), if_pos (by simp; omega), getD_nat, if_pos (show decide (bs.getD i 0 < 0) = false from decide_eq_false (by omega)), getD_nat, repl_getD _ i 2 0 hi, if_pos (by decide),
      if_neg (by
        have e : IntKind.i64.wrap (8 * 2) = 16 := by decide
        rw [e]
        have e2 : Int.fdiv (bs.getD i 0) (2 ^ min (16 : Int).toNat 64) = 0 := by
          rw [Int.fdiv_eq_ediv_of_nonneg _ (by decide)]
          exact Int.ediv_eq_zero_of_lt hb.1 (by have := hb.2; simpa using this)
        rw [e2]; decide), write_l2 _ _ _ _ _ _ (by omega), Option.bind_some, wrap_succ (by omega), take_succ_getD hi 0, List.flatMap_append]
    simp) (by
    unfold mould_Write.l1
    simp)
  unfold mould_Write
  simp only
  rw [size2 _ (by omega), Option.bind_some, if_pos (decide_eq_false (by omega)), if_neg (by simp), Option.bind_some, if_pos ⟨by omega, by omega, by omega, by omega⟩]
  rw [show (List.replicate 0 (0 : Int), List.replicate bs.length (2 : Int), bs, (bs.length : Int), (0 : Int)) = ((bs.take 0).flatMap le2I, List.replicate bs.length (2 : Int), bs, (bs.length : Int), ((0 : Nat) : Int)) from rfl, this, Option.bind_some]
  simp only [Option.some.injEq, Prod.mk.injEq, and_true]
  rw [List.map_flatMap]
  rfl

/-! ### Reading -/

/-- Two bytes as a number. -/
def w2 (s : List UInt8) (j : Nat) : Int := ((s.getD j 0).toNat : Int) + 256 * ((s.getD (j + 1) 0).toNat : Int)

theorem w2_bound (s : List UInt8) (j : Nat) : 0 ≤ w2 s j ∧ w2 s j < 65536 := by
  unfold w2
  have h1 := (s.getD j 0).toNat_lt
  have h2 := (s.getD (j + 1) 0).toNat_lt
  omega

theorem drop_two (s : List UInt8) (j : Nat) (h : j + 2 ≤ s.length) : (s.drop j).take 2 = [s.getD j 0, s.getD (j + 1) 0] := by
  rw [List.drop_eq_getElem_cons (by omega), List.drop_eq_getElem_cons (by omega), getD_lt (by omega), getD_lt (by omega)]
  rfl

theorem or_zero (c : Nat) (hc : c < 256) : bitsOp .or .i64 0 (c : Int) = (c : Int) := by
  rw [show (0 : Int) = ((0 : Nat) : Int) from rfl, or64 (by omega) (by omega), Nat.zero_or]
theorem or_two (a c : Nat) (ha : a < 256) (hc : c < 256) : bitsOp .or .i64 (a : Int) ((c * 256 : Nat) : Int) = ((a + 256 * c : Nat) : Int) := by
  rw [or64 (by omega) (by omega), Nat.or_comm, show c * 256 = 2 ^ 8 * c by omega, ← Nat.two_pow_add_eq_or_of_lt (by omega), Nat.add_comm]

theorem read_l2 (values : List Int) (s : List UInt8) (i : Nat) (w : Int) (ws : List Int) (wl t27 : Int) (a c : UInt8) (hi : i < values.length) (hv : values.getD i 0 = 0) :
    loopO mould_Read.l2 (values, s, (i : Int), w, ws, wl, t27, [(a.toNat : Int), (c.toNat : Int)], 2, 0) = some (values.set i ((a.toNat : Int) + 256 * (c.toNat : Int)), s, w, ws, wl, t27) := by
  have ha := a.toNat_lt
  have hc := c.toNat_lt
  have s1 : mould_Read.l2 (values, s, (i : Int), w, ws, wl, t27, [(a.toNat : Int), (c.toNat : Int)], 2, 0) = some (.inl (values.set i (a.toNat : Int), s, (i : Int), w, ws, wl, t27, [(a.toNat : Int), (c.toNat : Int)], 2, 1)) := by
    unfold mould_Read.l2
    simp only
    have e : IntKind.i64.wrap (IntKind.i64.wrap (([(a.toNat : Int), (c.toNat : Int)] : List Int).getD (0 : Int).toNat 0) * 2 ^ min (IntKind.i64.wrap (8 * 0)).toNat 64) = (a.toNat : Int) := by
      change IntKind.i64.wrap (IntKind.i64.wrap (a.toNat : Int) * 1) = _
      rw [wrap64 (n := (a.toNat : Int)) (by omega) (by omega), Int.mul_one, wrap64 (by omega) (by omega)]
    rw [if_pos (by decide), if_pos (by simp), if_pos (by omega), if_pos (by decide), if_pos (by omega), getD_nat, hv, e, or_zero _ ha, Int.toNat_natCast]
    rfl
  have s2 : mould_Read.l2 (values.set i (a.toNat : Int), s, (i : Int), w, ws, wl, t27, [(a.toNat : Int), (c.toNat : Int)], 2, 1) = some (.inl ((values.set i (a.toNat : Int)).set i ((a.toNat + 256 * c.toNat : Nat) : Int), s, (i : Int), w, ws, wl, t27, [(a.toNat : Int), (c.toNat : Int)], 2, 2)) := by
    unfold mould_Read.l2
    simp only
    have e : IntKind.i64.wrap (IntKind.i64.wrap (([(a.toNat : Int), (c.toNat : Int)] : List Int).getD (1 : Int).toNat 0) * 2 ^ min (IntKind.i64.wrap (8 * 1)).toNat 64) = ((c.toNat * 256 : Nat) : Int) := by
      change IntKind.i64.wrap (IntKind.i64.wrap (c.toNat : Int) * 256) = _
      rw [wrap64 (n := (c.toNat : Int)) (by omega) (by omega), wrap64 (by omega) (by omega)]
      omega
    have hg : (values.set i (a.toNat : Int)).getD i 0 = (a.toNat : Int) := by rw [getD_lt (by simpa using hi)]; simp
    rw [if_pos (by decide), if_pos (by simp), if_pos (by simp; omega), if_pos (by decide), if_pos (by simp; omega), getD_nat, hg, e, or_two _ _ ha hc, Int.toNat_natCast]
    rfl
  rw [loopO_inl s1, loopO_inl s2]
  refine loopO_inr ?_
  unfold mould_Read.l2
  simp only
  rw [if_neg (by decide), List.set_set]
  rfl

def nums (s : List UInt8) (n : Nat) : List Int := (List.range n).map fun k => w2 s (2 * k)

theorem nums_len (s : List UInt8) (n : Nat) : (nums s n).length = n := by unfold nums; simp

theorem read2 (s : List UInt8) (n : Nat) (hn : n ≤ 40) (h : 2 * n ≤ s.length) (hs : s.length ≤ 1000) : mould_Read (List.replicate n 2, s) = some (nums s n, 0) := by
  have hset : ∀ i, i < n → (nums s i ++ List.replicate (n - i) (0 : Int)).set i (w2 s (2 * i)) = nums s (i + 1) ++ List.replicate (n - (i + 1)) 0 := fun i hi => by
    have e : n - i = (n - (i + 1)) + 1 := by omega
    rw [List.set_append_right _ _ (by rw [nums_len]; omega), nums_len, Nat.sub_self, e, List.replicate_succ, List.set_cons_zero]
    unfold nums
    rw [List.range_succ, List.map_append, List.append_assoc]
    rfl
  have := loop_run (f := mould_Read.l1) (fun i => (nums s i ++ List.replicate (n - i) 0, s.drop (2 * i), List.replicate n (2 : Int), (n : Int), (i : Int))) (n := n) (r := nums s n) (fun i hi => by
    have hlen : (nums s i ++ List.replicate (n - i) (0 : Int)).length = n := by simp [nums_len]; omega
    unfold mould_Read.l1
    simp only
    rw [if_pos (by simpa using hi), if_pos (by simp; omega), getD_nat, repl_getD n i 2 0 hi, if_pos (by simp; omega)]
    have e2 : (2 : Int).toNat = 2 := rfl
    rw [e2, drop_two s (2 * i) (by omega)]
    have hv : (nums s i ++ List.replicate (n - i) (0 : Int)).getD i 0 = 0 := by
      rw [getD_lt (by rw [hlen]; exact hi), List.getElem_append_right (by rw [nums_len]; exact Nat.le_refl _)]
      simp
    have hl2 := read_l2 (nums s i ++ List.replicate (n - i) (0 : Int)) (s.drop (2 * i)) i 2 (List.replicate n 2) (n : Int) (i : Int) (s.getD (2 * i) 0) (s.getD (2 * i + 1) 0) (by rw [hlen]; exact hi) hv
    change (loopO mould_Read.l2 (_, _, _, _, _, _, _, [((s.getD (2 * i) 0).toNat : Int), ((s.getD (2 * i + 1) 0).toNat : Int)], 2, 0)).bind _ = _
    rw [hl2, Option.bind_some]
    simp only
    rw [if_pos (by simp; omega), wrap_succ (by omega), List.drop_drop, e2, show 2 * i + 2 = 2 * (i + 1) by omega]
    have := hset i hi
    unfold w2 at this
    rw [this]) (by
    unfold mould_Read.l1
    simp)
  unfold mould_Read
  simp only
  rw [size2 n (by omega), Option.bind_some, if_neg (by simp; omega), if_neg (by simp; omega), List.length_replicate, if_pos ⟨by omega, by omega, by omega, by omega⟩, Int.toNat_natCast]
  rw [show (List.replicate n (0 : Int), s, List.replicate n (2 : Int), (n : Int), (0 : Int)) = (nums s 0 ++ List.replicate (n - 0) 0, s.drop (2 * 0), List.replicate n (2 : Int), (n : Int), ((0 : Nat) : Int)) from rfl, this]
  rfl

/-! ### The reference's reading of one number -/

theorem refSize2 : wainwrightref01_Size [2] = some 2 := by
  have s1 : wainwrightref01_Size.l1 ([2], 0, 0) = some (.inl ([2], 2, 1)) := rfl
  have s2 : wainwrightref01_Size.l1 ([2], 2, 1) = some (.inr (.inl 2)) := rfl
  unfold wainwrightref01_Size
  rw [loopO_inl s1, loopO_inr s2]
  rfl

theorem refRead2 (s : List UInt8) (j : Nat) (h : j + 2 ≤ s.length) (hs : s.length ≤ 1000) : wainwrightref01_Read ([2], s.drop j) = some ([w2 s j], 0) := by
  have ha := (s.getD j 0).toNat_lt
  have hc := (s.getD (j + 1) 0).toNat_lt
  have g0 : (s.drop j).getD 0 0 = s.getD j 0 := by rw [getD_lt (by simp; omega), getD_lt (by omega)]; simp
  have g1 : (s.drop j).getD 1 0 = s.getD (j + 1) 0 := by rw [getD_lt (by simp; omega), getD_lt (by omega)]; simp
  have hl : (s.drop j).length = s.length - j := by simp
  have k1 : wainwrightref01_Read.l2 ([], [2], s.drop j, 0, 0, 0, 1) = some (.inl ([], [2], s.drop j, 0, 0, ((s.getD (j + 1) 0).toNat : Int), 0)) := by
    unfold wainwrightref01_Read.l2
    simp only
    rw [if_pos (by decide), show IntKind.i64.wrap (0 + 1) = 1 from rfl, if_pos (by rw [hl]; omega), show (1 : Int).toNat = 1 from rfl, g1, show IntKind.i64.wrap (256 * 0) = 0 from rfl, wrap64 (n := ((s.getD (j + 1) 0).toNat : Int)) (by omega) (by omega), Int.zero_add, wrap64 (by omega) (by omega)]
    rfl
  have k2 : wainwrightref01_Read.l2 ([], [2], s.drop j, 0, 0, ((s.getD (j + 1) 0).toNat : Int), 0) = some (.inl ([], [2], s.drop j, 0, 0, w2 s j, -1)) := by
    unfold wainwrightref01_Read.l2
    simp only
    rw [if_pos (by decide), show IntKind.i64.wrap (0 + 0) = 0 from rfl, if_pos (by rw [hl]; omega), show (0 : Int).toNat = 0 from rfl, g0, wrap64 (n := 256 * ((s.getD (j + 1) 0).toNat : Int)) (by omega) (by omega), wrap64 (n := ((s.getD j 0).toNat : Int)) (by omega) (by omega), wrap64 (by omega) (by omega)]
    simp only [Option.some.injEq, Sum.inl.injEq, Prod.mk.injEq, true_and]
    exact ⟨by unfold w2; omega, rfl⟩
  have k3 : wainwrightref01_Read.l2 ([], [2], s.drop j, 0, 0, w2 s j, -1) = some (.inr ([], [2], s.drop j, 0, 0, w2 s j)) := by
    unfold wainwrightref01_Read.l2
    simp only
    rw [if_neg (by decide)]
  have m1 : wainwrightref01_Read.l1 ([], [2], s.drop j, 0, 0) = some (.inl ([w2 s j], [2], s.drop j, 2, 1)) := by
    unfold wainwrightref01_Read.l1
    simp only
    rw [if_pos (by decide), if_pos (by decide)]
    change (loopO wainwrightref01_Read.l2 ([], [2], s.drop j, 0, 0, 0, 1)).bind _ = _
    rw [loopO_inl k1, loopO_inl k2, loopO_inr k3, Option.bind_some]
    simp only
    rw [if_pos (room (by decide) (by simp)), if_pos (by decide)]
    rfl
  have m2 : wainwrightref01_Read.l1 ([w2 s j], [2], s.drop j, 2, 1) = some (.inr [w2 s j]) := by
    unfold wainwrightref01_Read.l1
    simp only
    rw [if_neg (by decide)]
  unfold wainwrightref01_Read
  simp only
  rw [refSize2, Option.bind_some, if_neg (by decide), Option.bind_some, if_neg (by rw [hl]; simp; omega), loopO_inl m1, loopO_inr m2]
  rfl

/-! ### Noughts -/

def zeros (s : List UInt8) : Bool := s.all fun b => b == 0

theorem byte0 (b : UInt8) : ((b.toNat : Int) == 0) = (b == 0) := by
  by_cases h : b = 0
  · subst h; rfl
  · rw [beq_eq_false_iff_ne.2 h, beq_eq_false_iff_ne]
    intro e
    exact h (UInt8.toNat_inj.1 (by simpa using e))

theorem trimR (s : List UInt8) (hs : s.length ≤ 100000) : ∃ r, strings_trimRightByte (s, 0) = some r ∧ r.length ≤ s.length ∧ (zeros s = true → r = []) ∧ (zeros s = false → zeros r = false) := by
  suffices h : ∀ (n : Nat) (s : List UInt8), s.length = n → n ≤ 100000 → ∃ r, loopO strings_trimRightByte.l1 (s, 0) = some r ∧ r.length ≤ s.length ∧ (zeros s = true → r = []) ∧ (zeros s = false → zeros r = false) by
    obtain ⟨r, h1, h2⟩ := h _ s rfl hs
    exact ⟨r, by unfold strings_trimRightByte; simp only; rw [h1]; rfl, h2⟩
  intro n
  induction n with
  | zero =>
    intro s hs _
    have : s = [] := List.length_eq_zero_iff.1 hs
    subst this
    exact ⟨[], loopO_inr (by unfold strings_trimRightByte.l1; simp), Nat.le_refl _, (fun _ => rfl), (fun h => by cases h)⟩
  | succ n ih =>
    intro s hs hn
    have hw : IntKind.i64.wrap ((s.length : Int) - 1) = (n : Int) := by rw [wrap64 (by omega) (by omega)]; omega
    have htk : s = s.take n ++ [s.getD n 0] := by
      rw [← take_succ_getD (by omega) 0, List.take_of_length_le (by omega)]
    have hz : zeros s = (zeros (s.take n) && (s.getD n 0 == 0)) := by
      rw [htk]
      unfold zeros
      rw [List.all_append]
      have e1 : (s.take n ++ [s.getD n 0]).take n = s.take n := by rw [← htk]
      have e2 : (s.take n ++ [s.getD n 0]).getD n 0 = s.getD n 0 := by rw [← htk]
      rw [e1, e2]
      simp
    by_cases hb : s.getD n 0 = 0
    · obtain ⟨r, h1, h2, h3, h4⟩ := ih (s.take n) (by simp; omega) (by omega)
      refine ⟨r, ?_, by simp at h2; omega, fun h => h3 (by rw [hz] at h; simp only [Bool.and_eq_true] at h; exact h.1), fun h => h4 (by rw [hz, hb] at h; simpa using h)⟩
      rw [← h1]
      refine loopO_inl ?_
      unfold strings_trimRightByte.l1
      simp only
      rw [if_pos (by simp; omega), hw, if_pos (by omega), getD_nat, byte0, hb, if_pos (by rfl), if_pos (by omega), Int.toNat_natCast]
    · refine ⟨s, loopO_inr ?_, Nat.le_refl _, fun h => by rw [hz] at h; simp [hb] at h, fun h => h⟩
      unfold strings_trimRightByte.l1
      simp only
      rw [if_pos (by simp; omega), hw, if_pos (by omega), getD_nat, byte0, if_neg (by simpa using hb)]

theorem trimL (s : List UInt8) (hs : s.length ≤ 100000) : ∃ r, strings_trimLeftByte (s, 0) = some r ∧ (s = [] → r = []) ∧ (zeros s = false → r ≠ []) := by
  suffices h : ∀ (s : List UInt8), ∃ r, loopO strings_trimLeftByte.l1 (s, 0) = some r ∧ (s = [] → r = []) ∧ (zeros s = false → r ≠ []) by
    obtain ⟨r, h1, h2⟩ := h s
    exact ⟨r, by unfold strings_trimLeftByte; simp only; rw [h1]; rfl, h2⟩
  intro s
  induction s with
  | nil => exact ⟨[], loopO_inr (by unfold strings_trimLeftByte.l1; simp), (fun _ => rfl), (fun h => by cases h)⟩
  | cons b s ih =>
    by_cases hb : b = 0
    · obtain ⟨r, h1, h2, h3⟩ := ih
      refine ⟨r, ?_, (fun h => by cases h), fun h => h3 (by unfold zeros at h ⊢; rw [List.all_cons, hb] at h; simpa using h)⟩
      rw [← h1]
      refine loopO_inl ?_
      unfold strings_trimLeftByte.l1
      simp only
      rw [if_pos (by simp), if_pos (by simp), List.getD_cons_zero, byte0, hb, if_pos (by rfl), if_pos (by simp; omega), List.drop_one, List.tail_cons]
    · refine ⟨b :: s, loopO_inr ?_, (fun h => h), (fun _ h => by cases h)⟩
      unfold strings_trimLeftByte.l1
      simp only
      rw [if_pos (by simp), if_pos (by simp), List.getD_cons_zero, byte0, if_neg (by simpa using hb)]

set_option maxRecDepth 10000 in
theorem trim_is (s : List UInt8) (hs : s.length ≤ 100000) : ∃ r, strings_Trim (s, [0]) = some r ∧ (r == []) = zeros s := by
  unfold strings_Trim
  simp only
  by_cases h0 : s = []
  · subst h0
    exact ⟨[], by rw [if_neg (by decide)], rfl⟩
  · rw [if_pos (by rw [beq_eq_false_iff_ne]; exact h0), if_neg (by decide), if_pos (by decide), if_pos (by decide), Option.bind_some]
    simp only
    rw [if_pos (by decide), if_pos (by decide)]
    obtain ⟨r, h1, h2, h3, h4⟩ := trimR s hs
    obtain ⟨q, k1, k2, k3⟩ := trimL r (by omega)
    refine ⟨q, ?_, ?_⟩
    · change (strings_trimRightByte (s, 0)).bind _ = _
      rw [h1, Option.bind_some, if_pos (by decide)]
      change (strings_trimLeftByte (r, 0)).bind _ = _
      rw [k1]
      rfl
    · cases hz : zeros s with
      | true => rw [k2 (h3 hz)]; rfl
      | false => rw [beq_eq_false_iff_ne]; exact k3 (h4 hz)
end Go.Proofs.YtiodpeekbeahlaaGreatDoor.Abs
