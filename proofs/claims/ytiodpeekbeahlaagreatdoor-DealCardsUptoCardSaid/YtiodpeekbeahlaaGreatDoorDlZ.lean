/- The log's records: block numbers of two bytes each, noughts that are trimmed. The log: what is written, and how. The log: which changes may be made. The log: a commit. -/
import Derived.Test.YtiodpeekbeahlaaGreatDoorDlG
namespace Go.Proofs.YtiodpeekbeahlaaGreatDoor.Abs.Lg
open Go
set_option linter.unusedVariables false
attribute [-simp] List.getD_eq_getElem?_getD

theorem repl_getD {α : Type} (n i : Nat) (a d : α) (h : i < n) : (List.replicate n a).getD i d = a := by
  rw [getD_lt (by simpa using h)]; simp

/-! ### Widths -/

theorem size2 (n : Nat) (h : n ≤ 1000) : mould_Size (List.replicate n 2) = some ((2 * n : Nat) : Int) := by
  have := loop_run (f := mould_Size.l1) (fun i => (((2 * i : Nat) : Int), List.replicate n (2 : Int), (n : Int), (i : Int))) (n := n) (r := .inl ((2 * n : Nat) : Int)) (fun i hi => by
    unfold mould_Size.l1
    simp only
    rw [if_pos (by simpa using hi), if_pos (by simp; omega), getD_nat, repl_getD n i 2 0 hi, if_neg (by decide), if_pos (by decide), wrap_succ (by omega), wrap64 (by omega) (by omega)]
    simp only [Option.some.injEq, Sum.inl.injEq, Prod.mk.injEq, and_true]
    omega) (by
    unfold mould_Size.l1
    simp)
  unfold mould_Size
  rw [List.length_replicate, show ((0 : Int), List.replicate n (2 : Int), (n : Int), (0 : Int)) = (((2 * 0 : Nat) : Int), List.replicate n (2 : Int), (n : Int), ((0 : Nat) : Int)) from rfl, this]
  rfl

theorem repeat2 (n : Nat) (h : n ≤ 40) : slices_Repeat_int_int ([2], (n : Int)) = some (List.replicate n 2) := by
  have hall : ((List.range 41).all fun n => decide (slices_Repeat_int_int.e ([2], (n : Int)) = some (List.replicate n (2 : Int)))) = true := by kernel_rfl
  have := List.all_eq_true.1 hall n (List.mem_range.2 (by omega))
  exact slices_Repeat_int_int.le ([2], (n : Int)) _ (of_decide_eq_true this)

/-! ### Writing -/

def le2I (b : Int) : List Int := [IntKind.u8.wrap b, IntKind.u8.wrap (Int.fdiv b (2 ^ 8))]
def le2 (b : Int) : List UInt8 := (le2I b).map fun (n : Int) => UInt8.ofNat n.toNat

theorem write_l2 (b : List Int) (ws : List Int) (v : Int) (t : List Int) (tl i : Int) (hb : b.length ≤ 1000) :
    loopO mould_Write.l2 (b, ws, v, 2, t, tl, i) = some (b ++ le2I v, ws, t, tl, i) := by
  have s1 : mould_Write.l2 (b, ws, v, 2, t, tl, i) = some (.inl (b ++ [IntKind.u8.wrap v], ws, Int.fdiv v (2 ^ 8), 1, t, tl, i)) := by
    unfold mould_Write.l2
    simp only
    rw [if_pos (by decide), if_pos (room (by decide) (by simp; omega))]
    rfl
  have s2 : mould_Write.l2 (b ++ [IntKind.u8.wrap v], ws, Int.fdiv v (2 ^ 8), 1, t, tl, i) = some (.inl (b ++ [IntKind.u8.wrap v] ++ [IntKind.u8.wrap (Int.fdiv v (2 ^ 8))], ws, Int.fdiv (Int.fdiv v (2 ^ 8)) (2 ^ 8), 0, t, tl, i)) := by
    unfold mould_Write.l2
    simp only
    rw [if_pos (by decide), if_pos (room (by decide) (by simp; omega))]
    rfl
  rw [loopO_inl s1, loopO_inl s2]
  refine loopO_inr ?_
  unfold mould_Write.l2
  simp only
  rw [if_neg (by decide), List.append_assoc]
  rfl

theorem take_flatMap_len (bs : List Int) (i : Nat) : ((bs.take i).flatMap le2I).length ≤ 2 * i := by
  have e : ∀ l : List Int, (l.flatMap le2I).length = 2 * l.length := fun l => by
    induction l with
    | nil => rfl
    | cons a l ih => rw [List.flatMap_cons, List.length_append, ih]; simp [le2I]; omega
  rw [e]; simp; omega

theorem write2 (bs : List Int) (hl : bs.length ≤ 40) (h : ∀ b ∈ bs, 0 ≤ b ∧ b < 65536) : mould_Write (List.replicate bs.length 2, bs) = some (bs.flatMap le2, 0) := by
  have := loop_run (f := mould_Write.l1) (fun i => ((bs.take i).flatMap le2I, List.replicate bs.length (2 : Int), bs, (bs.length : Int), (i : Int))) (n := bs.length) (r := .inl (bs.flatMap le2I)) (fun i hi => by
    have hb := h (bs.getD i 0) (by rw [getD_lt hi]; exact List.getElem_mem hi)
    have hlen := take_flatMap_len bs i
    unfold mould_Write.l1
    simp only
    rw [if_pos (by simpa using hi), if_pos (by omega), if_pos (by simp; omega), getD_nat, if_pos (show decide (bs.getD i 0 < 0) = false from decide_eq_false (by omega)), getD_nat, repl_getD _ i 2 0 hi, if_pos (by decide),
      if_neg (by
        have e : IntKind.i64.wrap (8 * 2) = 16 := by decide
        rw [e]
        have e2 : Int.fdiv (bs.getD i 0) (2 ^ min (16 : Int).toNat 64) = 0 := by
          rw [Int.fdiv_eq_ediv_of_nonneg _ (by decide)]
          exact Int.ediv_eq_zero_of_lt hb.1 (by have := hb.2; simpa using this)
        rw [e2]; decide), write_l2 _ _ _ _ _ _ (by omega), Option.bind_some, wrap_succ (by omega), take_succ_getD hi 0, List.flatMap_append]
    simp) (by
    unfold mould_Write.l1
    simp)
  unfold mould_Write
  simp only
  rw [size2 _ (by omega), Option.bind_some, if_pos (decide_eq_false (by omega)), if_neg (by simp), Option.bind_some, if_pos ⟨by omega, by omega, by omega, by omega⟩]
  rw [show (List.replicate 0 (0 : Int), List.replicate bs.length (2 : Int), bs, (bs.length : Int), (0 : Int)) = ((bs.take 0).flatMap le2I, List.replicate bs.length (2 : Int), bs, (bs.length : Int), ((0 : Nat) : Int)) from rfl, this, Option.bind_some]
  simp only [Option.some.injEq, Prod.mk.injEq, and_true]
  rw [List.map_flatMap]
  rfl

/-! ### Reading -/

/-- Two bytes as a number. -/
def w2 (s : List UInt8) (j : Nat) : Int := ((s.getD j 0).toNat : Int) + 256 * ((s.getD (j + 1) 0).toNat : Int)

theorem w2_bound (s : List UInt8) (j : Nat) : 0 ≤ w2 s j ∧ w2 s j < 65536 := by
  unfold w2
  have h1 := (s.getD j 0).toNat_lt
  have h2 := (s.getD (j + 1) 0).toNat_lt
  omega

theorem drop_two (s : List UInt8) (j : Nat) (h : j + 2 ≤ s.length) : (s.drop j).take 2 = [s.getD j 0, s.getD (j + 1) 0] := by
  rw [List.drop_eq_getElem_cons (by omega), List.drop_eq_getElem_cons (by omega), getD_lt (by omega), getD_lt (by omega)]
  rfl

theorem or_zero (c : Nat) (hc : c < 256) : bitsOp .or .i64 0 (c : Int) = (c : Int) := by
  rw [show (0 : Int) = ((0 : Nat) : Int) from rfl, or64 (by omega) (by omega), Nat.zero_or]
theorem or_two (a c : Nat) (ha : a < 256) (hc : c < 256) : bitsOp .or .i64 (a : Int) ((c * 256 : Nat) : Int) = ((a + 256 * c : Nat) : Int) := by
  rw [or64 (by omega) (by omega), Nat.or_comm, show c * 256 = 2 ^ 8 * c by omega, ← Nat.two_pow_add_eq_or_of_lt (by omega), Nat.add_comm]

theorem read_l2 (values : List Int) (s : List UInt8) (i : Nat) (w : Int) (ws : List Int) (wl t27 : Int) (a c : UInt8) (hi : i < values.length) (hv : values.getD i 0 = 0) :
    loopO mould_Read.l2 (values, s, (i : Int), w, ws, wl, t27, [(a.toNat : Int), (c.toNat : Int)], 2, 0) = some (values.set i ((a.toNat : Int) + 256 * (c.toNat : Int)), s, w, ws, wl, t27) := by
  have ha := a.toNat_lt
  have hc := c.toNat_lt
  have s1 : mould_Read.l2 (values, s, (i : Int), w, ws, wl, t27, [(a.toNat : Int), (c.toNat : Int)], 2, 0) = some (.inl (values.set i (a.toNat : Int), s, (i : Int), w, ws, wl, t27, [(a.toNat : Int), (c.toNat : Int)], 2, 1)) := by
    unfold mould_Read.l2
    simp only
    have e : IntKind.i64.wrap (IntKind.i64.wrap (([(a.toNat : Int), (c.toNat : Int)] : List Int).getD (0 : Int).toNat 0) * 2 ^ min (IntKind.i64.wrap (8 * 0)).toNat 64) = (a.toNat : Int) := by
      change IntKind.i64.wrap (IntKind.i64.wrap (a.toNat : Int) * 1) = _
      rw [wrap64 (n := (a.toNat : Int)) (by omega) (by omega), Int.mul_one, wrap64 (by omega) (by omega)]
    rw [if_pos (by decide), if_pos (by simp), if_pos (by omega), if_pos (by decide), if_pos (by omega), getD_nat, hv, e, or_zero _ ha, Int.toNat_natCast]
    rfl
  have s2 : mould_Read.l2 (values.set i (a.toNat : Int), s, (i : Int), w, ws, wl, t27, [(a.toNat : Int), (c.toNat : Int)], 2, 1) = some (.inl ((values.set i (a.toNat : Int)).set i ((a.toNat + 256 * c.toNat : Nat) : Int), s, (i : Int), w, ws, wl, t27, [(a.toNat : Int), (c.toNat : Int)], 2, 2)) := by
    unfold mould_Read.l2
    simp only
    have e : IntKind.i64.wrap (IntKind.i64.wrap (([(a.toNat : Int), (c.toNat : Int)] : List Int).getD (1 : Int).toNat 0) * 2 ^ min (IntKind.i64.wrap (8 * 1)).toNat 64) = ((c.toNat * 256 : Nat) : Int) := by
      change IntKind.i64.wrap (IntKind.i64.wrap (c.toNat : Int) * 256) = _
      rw [wrap64 (n := (c.toNat : Int)) (by omega) (by omega), wrap64 (by omega) (by omega)]
      omega
    have hg : (values.set i (a.toNat : Int)).getD i 0 = (a.toNat : Int) := by rw [getD_lt (by simpa using hi)]; simp
    rw [if_pos (by decide), if_pos (by simp), if_pos (by simp; omega), if_pos (by decide), if_pos (by simp; omega), getD_nat, hg, e, or_two _ _ ha hc, Int.toNat_natCast]
    rfl
  rw [loopO_inl s1, loopO_inl s2]
  refine loopO_inr ?_
  unfold mould_Read.l2
  simp only
  rw [if_neg (by decide), List.set_set]
  rfl

def nums (s : List UInt8) (n : Nat) : List Int := (List.range n).map fun k => w2 s (2 * k)

theorem nums_len (s : List UInt8) (n : Nat) : (nums s n).length = n := by unfold nums; simp

theorem read2 (s : List UInt8) (n : Nat) (hn : n ≤ 40) (h : 2 * n ≤ s.length) (hs : s.length ≤ 1000) : mould_Read (List.replicate n 2, s) = some (nums s n, 0) := by
  have hset : ∀ i, i < n → (nums s i ++ List.replicate (n - i) (0 : Int)).set i (w2 s (2 * i)) = nums s (i + 1) ++ List.replicate (n - (i + 1)) 0 := fun i hi => by
    have e : n - i = (n - (i + 1)) + 1 := by omega
    rw [List.set_append_right _ _ (by rw [nums_len]; omega), nums_len, Nat.sub_self, e, List.replicate_succ, List.set_cons_zero]
    unfold nums
    rw [List.range_succ, List.map_append, List.append_assoc]
    rfl
  have := loop_run (f := mould_Read.l1) (fun i => (nums s i ++ List.replicate (n - i) 0, s.drop (2 * i), List.replicate n (2 : Int), (n : Int), (i : Int))) (n := n) (r := nums s n) (fun i hi => by
    have hlen : (nums s i ++ List.replicate (n - i) (0 : Int)).length = n := by simp [nums_len]; omega
    unfold mould_Read.l1
    simp only
    rw [if_pos (by simpa using hi), if_pos (by simp; omega), getD_nat, repl_getD n i 2 0 hi, if_pos (by simp; omega)]
    have e2 : (2 : Int).toNat = 2 := rfl
    rw [e2, drop_two s (2 * i) (by omega)]
    have hv : (nums s i ++ List.replicate (n - i) (0 : Int)).getD i 0 = 0 := by
      rw [getD_lt (by rw [hlen]; exact hi), List.getElem_append_right (by rw [nums_len]; exact Nat.le_refl _)]
      simp
    have hl2 := read_l2 (nums s i ++ List.replicate (n - i) (0 : Int)) (s.drop (2 * i)) i 2 (List.replicate n 2) (n : Int) (i : Int) (s.getD (2 * i) 0) (s.getD (2 * i + 1) 0) (by rw [hlen]; exact hi) hv
    change (loopO mould_Read.l2 (_, _, _, _, _, _, _, [((s.getD (2 * i) 0).toNat : Int), ((s.getD (2 * i + 1) 0).toNat : Int)], 2, 0)).bind _ = _
    rw [hl2, Option.bind_some]
    simp only
    rw [if_pos (by simp; omega), wrap_succ (by omega), List.drop_drop, e2, show 2 * i + 2 = 2 * (i + 1) by omega]
    have := hset i hi
    unfold w2 at this
    rw [this]) (by
    unfold mould_Read.l1
    simp)
  unfold mould_Read
  simp only
  rw [size2 n (by omega), Option.bind_some, if_neg (by simp; omega), if_neg (by simp; omega), List.length_replicate, if_pos ⟨by omega, by omega, by omega, by omega⟩, Int.toNat_natCast]
  rw [show (List.replicate n (0 : Int), s, List.replicate n (2 : Int), (n : Int), (0 : Int)) = (nums s 0 ++ List.replicate (n - 0) 0, s.drop (2 * 0), List.replicate n (2 : Int), (n : Int), ((0 : Nat) : Int)) from rfl, this]
  rfl

/-! ### The reference's reading of one number -/

theorem refSize2 : rf01_Size [2] = some 2 := by
  have s1 : rf01_Size.l1 ([2], 0, 0) = some (.inl ([2], 2, 1)) := rfl
  have s2 : rf01_Size.l1 ([2], 2, 1) = some (.inr (.inl 2)) := rfl
  unfold rf01_Size
  rw [loopO_inl s1, loopO_inr s2]
  rfl

theorem refRead2 (s : List UInt8) (j : Nat) (h : j + 2 ≤ s.length) (hs : s.length ≤ 1000) : rf01_Read ([2], s.drop j) = some ([w2 s j], 0) := by
  have ha := (s.getD j 0).toNat_lt
  have hc := (s.getD (j + 1) 0).toNat_lt
  have g0 : (s.drop j).getD 0 0 = s.getD j 0 := by rw [getD_lt (by simp; omega), getD_lt (by omega)]; simp
  have g1 : (s.drop j).getD 1 0 = s.getD (j + 1) 0 := by rw [getD_lt (by simp; omega), getD_lt (by omega)]; simp
  have hl : (s.drop j).length = s.length - j := by simp
  have k1 : rf01_Read.l2 ([], [2], s.drop j, 0, 0, 0, 1) = some (.inl ([], [2], s.drop j, 0, 0, ((s.getD (j + 1) 0).toNat : Int), 0)) := by
    unfold rf01_Read.l2
    simp only
    rw [if_pos (by decide), show IntKind.i64.wrap (0 + 1) = 1 from rfl, if_pos (by rw [hl]; omega), show (1 : Int).toNat = 1 from rfl, g1, show IntKind.i64.wrap (256 * 0) = 0 from rfl, wrap64 (n := ((s.getD (j + 1) 0).toNat : Int)) (by omega) (by omega), Int.zero_add, wrap64 (by omega) (by omega)]
    rfl
  have k2 : rf01_Read.l2 ([], [2], s.drop j, 0, 0, ((s.getD (j + 1) 0).toNat : Int), 0) = some (.inl ([], [2], s.drop j, 0, 0, w2 s j, -1)) := by
    unfold rf01_Read.l2
    simp only
    rw [if_pos (by decide), show IntKind.i64.wrap (0 + 0) = 0 from rfl, if_pos (by rw [hl]; omega), show (0 : Int).toNat = 0 from rfl, g0, wrap64 (n := 256 * ((s.getD (j + 1) 0).toNat : Int)) (by omega) (by omega), wrap64 (n := ((s.getD j 0).toNat : Int)) (by omega) (by omega), wrap64 (by omega) (by omega)]
    simp only [Option.some.injEq, Sum.inl.injEq, Prod.mk.injEq, true_and]
    exact ⟨by unfold w2; omega, rfl⟩
  have k3 : rf01_Read.l2 ([], [2], s.drop j, 0, 0, w2 s j, -1) = some (.inr ([], [2], s.drop j, 0, 0, w2 s j)) := by
    unfold rf01_Read.l2
    simp only
    rw [if_neg (by decide)]
  have m1 : rf01_Read.l1 ([], [2], s.drop j, 0, 0) = some (.inl ([w2 s j], [2], s.drop j, 2, 1)) := by
    unfold rf01_Read.l1
    simp only
    rw [if_pos (by decide), if_pos (by decide)]
    change (loopO rf01_Read.l2 ([], [2], s.drop j, 0, 0, 0, 1)).bind _ = _
    rw [loopO_inl k1, loopO_inl k2, loopO_inr k3, Option.bind_some]
    simp only
    rw [if_pos (room (by decide) (by simp)), if_pos (by decide)]
    rfl
  have m2 : rf01_Read.l1 ([w2 s j], [2], s.drop j, 2, 1) = some (.inr [w2 s j]) := by
    unfold rf01_Read.l1
    simp only
    rw [if_neg (by decide)]
  unfold rf01_Read
  simp only
  rw [refSize2, Option.bind_some, if_neg (by decide), Option.bind_some, if_neg (by rw [hl]; simp; omega), loopO_inl m1, loopO_inr m2]
  rfl

/-! ### Noughts -/

def zeros (s : List UInt8) : Bool := s.all fun b => b == 0

theorem byte0 (b : UInt8) : ((b.toNat : Int) == 0) = (b == 0) := by
  by_cases h : b = 0
  · subst h; rfl
  · rw [beq_eq_false_iff_ne.2 h, beq_eq_false_iff_ne]
    intro e
    exact h (UInt8.toNat_inj.1 (by simpa using e))

theorem trimR (s : List UInt8) (hs : s.length ≤ 100000) : ∃ r, strings_trimRightByte (s, 0) = some r ∧ r.length ≤ s.length ∧ (zeros s = true → r = []) ∧ (zeros s = false → zeros r = false) := by
  suffices h : ∀ (n : Nat) (s : List UInt8), s.length = n → n ≤ 100000 → ∃ r, loopO strings_trimRightByte.l1 (s, 0) = some r ∧ r.length ≤ s.length ∧ (zeros s = true → r = []) ∧ (zeros s = false → zeros r = false) by
    obtain ⟨r, h1, h2⟩ := h _ s rfl hs
    exact ⟨r, by unfold strings_trimRightByte; simp only; rw [h1]; rfl, h2⟩
  intro n
  induction n with
  | zero =>
    intro s hs _
    have : s = [] := List.length_eq_zero_iff.1 hs
    subst this
    exact ⟨[], loopO_inr (by unfold strings_trimRightByte.l1; simp), Nat.le_refl _, (fun _ => rfl), (fun h => by cases h)⟩
  | succ n ih =>
    intro s hs hn
    have hw : IntKind.i64.wrap ((s.length : Int) - 1) = (n : Int) := by rw [wrap64 (by omega) (by omega)]; omega
    have htk : s = s.take n ++ [s.getD n 0] := by
      rw [← take_succ_getD (by omega) 0, List.take_of_length_le (by omega)]
    have hz : zeros s = (zeros (s.take n) && (s.getD n 0 == 0)) := by
      rw [htk]
      unfold zeros
      rw [List.all_append]
      have e1 : (s.take n ++ [s.getD n 0]).take n = s.take n := by rw [← htk]
      have e2 : (s.take n ++ [s.getD n 0]).getD n 0 = s.getD n 0 := by rw [← htk]
      rw [e1, e2]
      simp
    by_cases hb : s.getD n 0 = 0
    · obtain ⟨r, h1, h2, h3, h4⟩ := ih (s.take n) (by simp; omega) (by omega)
      refine ⟨r, ?_, by simp at h2; omega, fun h => h3 (by rw [hz] at h; simp only [Bool.and_eq_true] at h; exact h.1), fun h => h4 (by rw [hz, hb] at h; simpa using h)⟩
      rw [← h1]
      refine loopO_inl ?_
      unfold strings_trimRightByte.l1
      simp only
      rw [if_pos (by simp; omega), hw, if_pos (by omega), getD_nat, byte0, hb, if_pos (by rfl), if_pos (by omega), Int.toNat_natCast]
    · refine ⟨s, loopO_inr ?_, Nat.le_refl _, fun h => by rw [hz] at h; simp [hb] at h, fun h => h⟩
      unfold strings_trimRightByte.l1
      simp only
      rw [if_pos (by simp; omega), hw, if_pos (by omega), getD_nat, byte0, if_neg (by simpa using hb)]

theorem trimL (s : List UInt8) (hs : s.length ≤ 100000) : ∃ r, strings_trimLeftByte (s, 0) = some r ∧ (s = [] → r = []) ∧ (zeros s = false → r ≠ []) := by
  suffices h : ∀ (s : List UInt8), ∃ r, loopO strings_trimLeftByte.l1 (s, 0) = some r ∧ (s = [] → r = []) ∧ (zeros s = false → r ≠ []) by
    obtain ⟨r, h1, h2⟩ := h s
    exact ⟨r, by unfold strings_trimLeftByte; simp only; rw [h1]; rfl, h2⟩
  intro s
  induction s with
  | nil => exact ⟨[], loopO_inr (by unfold strings_trimLeftByte.l1; simp), (fun _ => rfl), (fun h => by cases h)⟩
  | cons b s ih =>
    by_cases hb : b = 0
    · obtain ⟨r, h1, h2, h3⟩ := ih
      refine ⟨r, ?_, (fun h => by cases h), fun h => h3 (by unfold zeros at h ⊢; rw [List.all_cons, hb] at h; simpa using h)⟩
      rw [← h1]
      refine loopO_inl ?_
      unfold strings_trimLeftByte.l1
      simp only
      rw [if_pos (by simp), if_pos (by simp), List.getD_cons_zero, byte0, hb, if_pos (by rfl), if_pos (by simp; omega), List.drop_one, List.tail_cons]
    · refine ⟨b :: s, loopO_inr ?_, (fun h => h), (fun _ h => by cases h)⟩
      unfold strings_trimLeftByte.l1
      simp only
      rw [if_pos (by simp), if_pos (by simp), List.getD_cons_zero, byte0, if_neg (by simpa using hb)]

set_option maxRecDepth 10000 in
theorem trim_is (s : List UInt8) (hs : s.length ≤ 100000) : ∃ r, strings_Trim (s, [0]) = some r ∧ (r == []) = zeros s := by
  unfold strings_Trim
  simp only
  by_cases h0 : s = []
  · subst h0
    exact ⟨[], by rw [if_neg (by decide)], rfl⟩
  · rw [if_pos (by rw [beq_eq_false_iff_ne]; exact h0), if_neg (by decide), if_pos (by decide), if_pos (by decide), Option.bind_some]
    simp only
    rw [if_pos (by decide), if_pos (by decide)]
    obtain ⟨r, h1, h2, h3, h4⟩ := trimR s hs
    obtain ⟨q, k1, k2, k3⟩ := trimL r (by omega)
    refine ⟨q, ?_, ?_⟩
    · change (strings_trimRightByte (s, 0)).bind _ = _
      rw [h1, Option.bind_some, if_pos (by decide)]
      change (strings_trimLeftByte (r, 0)).bind _ = _
      rw [k1]
      rfl
    · cases hz : zeros s with
      | true => rw [k2 (h3 hz)]; rfl
      | false => rw [beq_eq_false_iff_ne]; exact k3 (h4 hz)
end Go.Proofs.YtiodpeekbeahlaaGreatDoor.Abs.Lg

namespace Go.Proofs.YtiodpeekbeahlaaGreatDoor.Abs.Lg
open Go
set_option linter.unusedVariables false
attribute [-simp] List.getD_eq_getElem?_getD

theorem call_free {s : Sl} (h : s.1.2 = -1) : callS s = (((s.1.1 + 1, -1), s.2), 0) := by
  unfold callS
  rw [if_neg (by rw [h]; decide), if_neg (by rw [h]; decide), h]
theorem flush_free {s : Sl} (h : s.1.2 = -1) : flushS s = (((s.1.1 + 1, -1), imageS s.2.1 s.2.2, []), 0) := by
  unfold flushS
  rw [call_free h, if_pos rfl]

theorem wholeS_id (b : Blk) (h : b.length = 128) : wholeS b = b := by
  unfold wholeS
  rw [List.take_of_length_le (by omega), h]
  simp
theorem wholeS_len (b : Blk) : (wholeS b).length = 128 := by
  unfold wholeS; simp; omega

/-! ### Changes made -/

def looS (es : Loo) (ch : List (Int × Blk)) : Loo := ch.foldl (fun es x => mp es x.1 x.2) es
def putS (xs : List Blk) (ch : List (Int × Blk)) : List Blk := ch.foldl (fun xs x => xs.set x.1.toNat x.2) xs

theorem putS_len (ch : List (Int × Blk)) : ∀ xs : List Blk, (putS xs ch).length = xs.length := by
  induction ch with
  | nil => intro xs; rfl
  | cons x ch ih => intro xs; unfold putS at ih ⊢; rw [List.foldl_cons, ih, List.length_set]

theorem mg_mp (i : Int) (b : Blk) (j : Int) : ∀ es : Loo, mg (mp es i b) j = if j = i then some b else mg es j
  | [] => by
    rw [show mp [] i b = [(i, b)] from rfl, mg_cons]
  | e :: es => by
    rw [mp_cons]
    by_cases h : i = e.1
    · rw [if_pos h, mg_cons, mg_cons]
      by_cases h2 : j = i
      · rw [if_pos h2, if_pos h2]
      · rw [if_neg h2, if_neg h2, if_neg (by rw [← h]; exact h2)]
    · rw [if_neg h, mg_cons, mg_cons, mg_mp i b j es]
      by_cases h2 : j = e.1
      · rw [if_pos h2, if_pos h2, if_neg (by rw [h2]; exact fun q => h q.symm)]
      · rw [if_neg h2, if_neg h2]

theorem image_mp (xs : List Blk) (es : Loo) (i : Int) (b : Blk) (hi : 0 ≤ i) : imageS xs (mp es i b) = (imageS xs es).set i.toNat b := by
  refine List.ext_getElem (by simp [image_len]) fun j h1 h2 => ?_
  have hj : j < xs.length := by rw [image_len] at h1; exact h1
  have e1 := image_at xs (mp es i b) j hj
  have e2 := image_at xs es j hj
  rw [getD_lt h1, mg_mp] at e1
  rw [getD_lt (by rw [image_len]; exact hj)] at e2
  rw [e1, List.getElem_set]
  by_cases h : i.toNat = j
  · rw [if_pos (by omega), if_pos h]; rfl
  · rw [if_neg (by omega), if_neg h, e2]

theorem image_loo (xs : List Blk) (ch : List (Int × Blk)) : ∀ (es : Loo), (∀ x ∈ ch, 0 ≤ x.1) → imageS xs (looS es ch) = putS (imageS xs es) ch := by
  induction ch with
  | nil => intro es _; rfl
  | cons x ch ih =>
    intro es h
    unfold looS putS at ih ⊢
    rw [List.foldl_cons, List.foldl_cons, ih _ (fun y hy => h y (List.mem_cons_of_mem _ hy)), image_mp _ _ _ _ (h x List.mem_cons_self)]

/-- Changes that fit n blocks. -/
def fits (n : Nat) (ch : List (Int × Blk)) : Prop := ∀ x ∈ ch, 0 ≤ x.1 ∧ x.1 < (n : Int) ∧ x.2.length = 128

theorem write_fits {n m : Nat} {c : Int} {xs : List Blk} {es : Loo} (h : Okay n m ((c, -1), xs, es)) (hm : m < 100000) {x : Int × Blk} (hx : 0 ≤ x.1 ∧ x.1 < (n : Int) ∧ x.2.length = 128) :
    slab_Slab_Write (((c, -1), xs, es), x.1, x.2) = some (((c + 1, -1), xs, mp es x.1 x.2), 0) ∧ Okay n (m + 1) ((c + 1, -1), xs, mp es x.1 x.2) := by
  obtain ⟨h1, h2⟩ := h.write hm x.1 x.2
  have hf := h.firm
  simp only at hf
  have e : writeS ((c, -1), xs, es) x.1 x.2 = (((c + 1, -1), xs, mp es x.1 x.2), 0) := by
    unfold writeS
    rw [call_free rfl, if_neg (by simp)]
    simp only
    rw [if_pos ⟨hx.1, by rw [hf]; exact hx.2.1, by omega⟩, wholeS_id _ hx.2.2]
  rw [e] at h1 h2
  exact ⟨h1, h2⟩

theorem take_loo (ch : List (Int × Blk)) (i : Nat) (hi : i < ch.length) : looS [] (ch.take (i + 1)) = mp (looS [] (ch.take i)) (ch.getD i (0, [])).1 (ch.getD i (0, [])).2 := by
  rw [take_succ_getD hi (0, [])]
  unfold looS
  rw [List.foldl_append]
  rfl

theorem log_write {n m : Nat} {p : Bool × Int} {c : Int} {xs : List Blk} (h : Okay n m ((c, -1), xs, [])) {ch : List (Int × Blk)} (hf : fits n ch) (hm : m + ch.length + 1 ≤ 100000) :
    log_Log_write ((p, (c, -1), xs, []), ch) = some ((p, (c + ch.length + 1, -1), putS xs ch, []), 0) ∧ Okay n (m + ch.length + 1) ((c + ch.length + 1, -1), putS xs ch, []) := by
  have hx : ∀ i, i < ch.length → 0 ≤ (ch.getD i (0, [])).1 ∧ (ch.getD i (0, [])).1 < (n : Int) ∧ (ch.getD i (0, [])).2.length = 128 := fun i hi => by
    rw [getD_lt hi]; exact hf _ (List.getElem_mem hi)
  have ok : ∀ i, i ≤ ch.length → Okay n (m + i) ((c + i, -1), xs, looS [] (ch.take i)) := by
    intro i
    induction i with
    | zero => intro _; rw [List.take_zero]; simpa [looS] using h
    | succ i ih =>
      intro hi
      have := (write_fits (ih (by omega)) (by omega) (hx i (by omega))).2
      rw [take_loo ch i (by omega)]
      have e : c + (i : Int) + 1 = c + ((i + 1 : Nat) : Int) := by omega
      rw [← e]; exact this
  have hl := ok ch.length (Nat.le_refl _)
  rw [List.take_length] at hl
  have := loop_run (f := log_Log_write.l1) (fun i => ((p, (c + i, -1), xs, looS [] (ch.take i)), ch, (ch.length : Int), (i : Int))) (n := ch.length) (r := .inl (p, (c + ch.length, -1), xs, looS [] ch)) (fun i hi => by
    have hw := (write_fits (ok i (by omega)) (by omega) (hx i hi)).1
    unfold log_Log_write.l1
    obtain ⟨p1, p2⟩ := p
    simp only
    rw [if_pos (by simpa using hi), if_pos (by omega), getD_nat, hw, Option.bind_some]
    simp only
    rw [if_neg (by decide), wrap_succ (by omega), take_loo ch i hi]
    have e : c + (i : Int) + 1 = c + ((i + 1 : Nat) : Int) := by omega
    rw [e]) (by
    unfold log_Log_write.l1
    obtain ⟨p1, p2⟩ := p
    simp only
    rw [if_neg (by simp), List.take_length])
  obtain ⟨f1, f2⟩ := hl.flush (by omega)
  have ef := flush_free (s := ((c + (ch.length : Int), -1), xs, looS [] ch)) rfl
  simp only at ef
  rw [image_loo xs ch [] (fun x hx => (hf x hx).1), image_nil] at ef
  rw [ef] at f1 f2
  refine ⟨?_, f2⟩
  unfold log_Log_write
  obtain ⟨p1, p2⟩ := p
  simp only
  have e0 : ((((p1, p2), (c, -1), xs, []), ch, (ch.length : Int), (0 : Int)) : ((Bool × Int) × (Int × Int) × List Blk × Loo) × List (Int × Blk) × Int × Int) = (((p1, p2), (c + ((0 : Nat) : Int), -1), xs, looS [] (ch.take 0)), ch, (ch.length : Int), ((0 : Nat) : Int)) := by simp [looS]
  rw [e0, this, Option.bind_some]
  simp only
  rw [f1, Option.bind_some]

/-! ### The head -/

def headS (bs : List Int) : Blk := (UInt8.ofNat bs.length :: bs.flatMap le2) ++ List.replicate (128 - (1 + 2 * bs.length)) 0

theorem le2_len (bs : List Int) : (bs.flatMap le2).length = 2 * bs.length := by
  induction bs with
  | nil => rfl
  | cons a l ih => rw [List.flatMap_cons, List.length_append, ih]; simp [le2, le2I]; omega

theorem headS_len (bs : List Int) (h : bs.length ≤ 40) : (headS bs).length = 128 := by
  unfold headS
  rw [List.length_append, List.length_cons, le2_len, List.length_replicate]
  omega

theorem head_is (bs : List Int) (hl : bs.length ≤ 40) (h : ∀ b ∈ bs, 0 ≤ b ∧ b < 65536) : log_headOf bs = some [(1, headS bs)] := by
  unfold log_headOf
  rw [repeat2 _ hl, Option.bind_some, write2 bs hl h, Option.bind_some]
  have e : (([IntKind.u8.wrap (bs.length : Int)] : List Int).map fun (n : Int) => UInt8.ofNat n.toNat) = [UInt8.ofNat bs.length] := by
    rw [List.map_cons, List.map_nil]
    have : IntKind.u8.wrap (bs.length : Int) = (bs.length : Int) := by
      simp only [IntKind.wrap, IntKind.signed, IntKind.bits]
      simp
      omega
    rw [this, Int.toNat_natCast]
  simp only
  rw [e, if_pos (by rw [List.length_singleton, le2_len]; omega)]
  rw [pad_is _ (by rw [List.length_append, List.length_singleton, le2_len]; omega), Option.bind_some]
  simp only [Option.some.injEq, List.cons.injEq, and_true, Prod.mk.injEq, true_and]
  unfold headS
  rw [List.length_append, List.length_singleton, le2_len]
  rfl

theorem head_nil : headS [] = List.replicate 128 0 := rfl

/-! ### Applying -/

def zeroS : Blk := List.replicate 128 0

theorem fits_head {n : Nat} (hn : 2 ≤ n) (bs : List Int) (hl : bs.length ≤ 40) : fits n [(1, headS bs)] := fun x hx => by
  rw [List.mem_singleton] at hx
  subst hx
  exact ⟨by simp, by simp only; omega, headS_len bs hl⟩

theorem log_apply {n m : Nat} {p : Bool × Int} {c : Int} {xs : List Blk} (h : Okay n m ((c, -1), xs, [])) (hn : 2 ≤ n) {ch : List (Int × Blk)} (hf : fits n ch) (hm : m + ch.length + 3 ≤ 100000) :
    log_Log_apply ((p, (c, -1), xs, []), ch) = some ((p, (c + ch.length + 3, -1), (putS xs ch).set 1 zeroS, []), 0) ∧ Okay n (m + ch.length + 3) ((c + ch.length + 3, -1), (putS xs ch).set 1 zeroS, []) := by
  obtain ⟨w1, o1⟩ := log_write (p := p) h hf (by omega)
  obtain ⟨w2, o2⟩ := log_write (p := p) o1 (fits_head hn [] (by simp)) (by simp; omega)
  have e3 : c + (ch.length : Int) + 1 + (([(1, headS [])] : List (Int × Blk)).length : Int) + 1 = c + ch.length + 3 := by simp; omega
  have e4 : m + ch.length + 1 + ([(1, headS [])] : List (Int × Blk)).length + 1 = m + ch.length + 3 := by simp
  have e5 : putS (putS xs ch) [(1, headS [])] = (putS xs ch).set 1 zeroS := rfl
  rw [e3, e5] at w2 o2
  rw [e4] at o2
  refine ⟨?_, o2⟩
  obtain ⟨p1, p2⟩ := p
  unfold log_Log_apply log_all
  simp only
  unfold log_Log_apply_1
  simp only
  rw [w1, Option.bind_some]
  simp only
  rw [Option.bind_some]
  simp only
  rw [if_neg (by decide)]
  unfold log_Log_apply_2
  simp only
  rw [head_is [] (by simp) (fun b hb => by cases hb), Option.bind_some, w2, Option.bind_some]
  simp only
  rw [Option.bind_some]
  simp only
  rw [if_neg (by decide), Option.bind_some]
end Go.Proofs.YtiodpeekbeahlaaGreatDoor.Abs.Lg

namespace Go.Proofs.YtiodpeekbeahlaaGreatDoor.Abs.Lg
open Go
set_option linter.unusedVariables false
attribute [-simp] List.getD_eq_getElem?_getD

/-! ### Maps of numbers -/

abbrev Ch := List (Int × Blk)
abbrev Cnt := List (Int × Int)
def cg (es : Cnt) (i : Int) : Option Int := mget (K := .int .i64) (V := .int .i64) es i
def cp (es : Cnt) (i v : Int) : Cnt := mput (K := .int .i64) (V := .int .i64) es i v

theorem cg_cons (e : Int × Int) (es : Cnt) (i : Int) : cg (e :: es) i = if i = e.1 then some e.2 else cg es i := by
  unfold cg mget
  rw [List.find?_cons]
  change (match (i == e.1) with | true => some e | false => _).map _ = _
  by_cases h : i = e.1
  · rw [if_pos h, beq_iff_eq.2 h]; rfl
  · rw [if_neg h, beq_eq_false_iff_ne.2 h]
theorem cp_cons (e : Int × Int) (es : Cnt) (i v : Int) : cp (e :: es) i v = if i = e.1 then (i, v) :: es else e :: cp es i v := by
  unfold cp
  rw [mput]
  change (if (i == e.1) = true then _ else _) = _
  by_cases h : i = e.1
  · rw [if_pos h, if_pos (beq_iff_eq.2 h)]
  · rw [if_neg h, if_neg (by simpa using h)]
theorem cg_cp (i v j : Int) : ∀ es : Cnt, cg (cp es i v) j = if j = i then some v else cg es j
  | [] => by rw [show cp [] i v = [(i, v)] from rfl, cg_cons]
  | e :: es => by
    rw [cp_cons]
    by_cases h : i = e.1
    · rw [if_pos h, cg_cons, cg_cons]
      by_cases h2 : j = i
      · rw [if_pos h2, if_pos h2]
      · rw [if_neg h2, if_neg h2, if_neg (by rw [← h]; exact h2)]
    · rw [if_neg h, cg_cons, cg_cons, cg_cp i v j es]
      by_cases h2 : j = e.1
      · rw [if_pos h2, if_pos h2, if_neg (by rw [h2]; exact fun q => h q.symm)]
      · rw [if_neg h2, if_neg h2]

/-! ### What may be -/

def keyAt (c : Ch) (i : Nat) : Int := (c.getD i (0, [])).1
def dupAt (c : Ch) (i : Nat) (j : Int) : Bool := (List.range i).any fun k => keyAt c k == j
def freeS (n : Nat) (i : Int) : Bool := decide (0 ≤ i ∧ i < (n : Int) ∧ (i < 1 ∨ 42 ≤ i))
def okAt (n : Nat) (c : Ch) (i : Nat) : Bool := freeS n (keyAt c i) && ((c.getD i (0, [])).2.length == 128) && !dupAt c i (keyAt c i)
def rightS (n : Nat) (c : Ch) : Bool := (List.range c.length).all (okAt n c)

theorem dup_succ (c : Ch) (i : Nat) (j : Int) : dupAt c (i + 1) j = (dupAt c i j || (keyAt c i == j)) := by
  unfold dupAt
  rw [List.range_succ, List.any_append]
  simp

def seenS (c : Ch) : Nat → Cnt
  | 0 => []
  | i + 1 => cp (seenS c i) (keyAt c i) (IntKind.i64.wrap (((cg (seenS c i) (keyAt c i)).getD 0) + 1))

theorem seen_is {n : Nat} (c : Ch) : ∀ (i : Nat), (∀ k, k < i → okAt n c k = true) → ∀ j, cg (seenS c i) j = if dupAt c i j = true then some 1 else none
  | 0, _, j => rfl
  | i + 1, h, j => by
    have ih := seen_is c i (fun k hk => h k (by omega))
    have h0 := h i (by omega)
    unfold okAt at h0
    simp only [Bool.and_eq_true, Bool.not_eq_true'] at h0
    rw [seenS, cg_cp, dup_succ]
    by_cases hj : j = keyAt c i
    · subst hj
      rw [if_pos rfl, ih, h0.2, if_neg (by simp), if_pos (by simp)]
      rfl
    · rw [if_neg hj, ih, (by simpa using fun q => hj q.symm : (keyAt c i == j) = false), Bool.or_false]

theorem free_is (s : List Blk × Loo × Int × Int) (p : Bool × Int) (i : Int) : log_Log_free ((s, p), i) = some (freeS s.1.length i) := by
  unfold log_Log_free slab_Slab_Size freeS
  simp only
  by_cases h1 : i ≥ 0
  · rw [if_pos (by simpa using h1), Option.bind_some]
    by_cases h2 : i < (s.1.length : Int)
    · rw [if_pos (by simpa using h2)]
      by_cases h3 : i < 1
      · rw [if_neg (by simpa using h3), decide_eq_true (show 0 ≤ i ∧ i < (s.1.length : Int) ∧ (i < 1 ∨ 42 ≤ i) from ⟨h1, h2, .inl h3⟩)]
      · rw [if_pos (by simpa using h3)]
        congr 1
        exact decide_eq_decide.2 ⟨fun q => ⟨h1, h2, .inr q⟩, fun q => by omega⟩
    · rw [if_neg (by simpa using h2), decide_eq_false (by omega)]
  · rw [if_neg (by simpa using h1), decide_eq_false (by omega)]

theorem all_of {n : Nat} {f : Nat → Bool} {j : Nat} (h1 : j ≤ n) (h2 : ∀ i, i < j → f i = true) (h3 : j < n → f j = false) : (List.range n).all f = decide (j = n) := by
  by_cases h : j = n
  · rw [decide_eq_true h, List.all_eq_true]
    intro i hi
    exact h2 i (by have := List.mem_range.1 hi; omega)
  · rw [decide_eq_false h, List.all_eq_false]
    exact ⟨j, List.mem_range.2 (by omega), by rw [h3 (by omega)]; simp⟩

theorem right_is (s : List Blk × Loo × Int × Int) (p : Bool × Int) (c : Ch) (hc : c.length ≤ 2000000) : log_Log_right ((s, p), c) = some (rightS s.1.length c) := by
  obtain ⟨j, _, h2, h3, h4, h5⟩ := loop_first' (f := log_Log_right.l1) (fun i => (seenS c i, (s, p), c, (c.length : Int), (i : Int))) (fun i => !okAt s.1.length c i) (r := fun i => if i = c.length then .inl () else .inr false) (n := c.length) c.length 0 (by omega) (fun i _ hi hq => by
    have hs := seen_is (n := s.1.length) c i (fun k hk => by simpa using hq k (by omega) hk) (keyAt c i)
    unfold log_Log_right.l1
    simp only
    rw [if_pos (by simpa using hi), if_pos (by omega), getD_nat, free_is, Option.bind_some]
    have hm : ∀ (es : Cnt) (q : Int), mget (K := I) (V := I) es q = cg es q := fun _ _ => rfl
    have hp : ∀ (es : Cnt) (q v : Int), mput (K := I) (V := I) es q v = cp es q v := fun _ _ _ => rfl
    have hk : (c.getD i (0, [])).1 = keyAt c i := rfl
    simp only [hm, hp, hk]
    rw [wrap_succ (by omega), if_neg (show ¬ i = c.length by omega), cg_cp, if_pos rfl]
    unfold okAt
    by_cases hf : freeS s.1.length (keyAt c i) = true
    · rw [hf, if_pos (by rfl)]
      by_cases hl : (c.getD i (0, [])).2.length = 128
      · rw [if_pos (by rw [hl]; rfl), hs, hl]
        cases hd : dupAt c i (keyAt c i) with
        | true =>
          rw [if_pos rfl, if_pos (by decide), if_pos (by decide)]
        | false =>
          rw [if_neg (by decide), if_neg (by decide)]
          simp only [seenS]
          rw [hs, hd]
          rfl
      · rw [if_neg (by simp only [bne_eq_false_iff_eq]; omega), if_pos (by simp [hl])]
    · rw [if_neg (by simpa using hf), if_pos (by simp [Bool.eq_false_iff.2 hf])]) (by
    unfold log_Log_right.l1
    simp only
    rw [if_neg (by simp), if_pos trivial])
  unfold log_Log_right
  simp only
  rw [show (([] : Cnt), (s, p), c, (c.length : Int), (0 : Int)) = (seenS c 0, (s, p), c, (c.length : Int), ((0 : Nat) : Int)) from rfl, h5, Option.bind_some]
  have ha : rightS s.1.length c = decide (j = c.length) := all_of h2 (fun i hi => by simpa using h3 i (by omega) hi) (fun hj => by simpa using h4 hj)
  rw [ha]
  by_cases hj : j = c.length
  · rw [if_pos hj, decide_eq_true hj]
  · rw [if_neg hj, decide_eq_false hj]

/-! ### The document's -/

def ownS (i : Int) : Bool := decide (1 ≤ i ∧ i ≤ 41)

theorem own_is (i : Int) : rf11_own i = some (ownS i) := by
  unfold rf11_own ownS
  by_cases h : i ≥ 1
  · rw [if_pos (by simpa using h)]
    congr 1
    exact decide_eq_decide.2 ⟨fun q => ⟨h, q⟩, fun q => q.2⟩
  · rw [if_neg (by simpa using h), decide_eq_false (by omega)]

def mayS (n : Nat) (c : Ch) : Int := if c.length > 40 then 13 else if rightS n c = true then 0 else 1

theorem may_is (s : List Blk × Loo × Int × Int) (k : Int) (c : Ch) (hc : c.length ≤ 2000000) : log_Log_may ((s, false, k), c) = some (mayS s.1.length c) := by
  unfold log_Log_may mayS
  simp only
  rw [if_neg (by simp)]
  by_cases hb : c.length > 40
  · rw [if_pos (by rw [decide_eq_true_eq]; omega), if_pos hb]
  · rw [if_neg (by rw [decide_eq_true_eq]; omega), if_neg hb, right_is _ _ _ hc, Option.bind_some]
    cases rightS s.1.length c <;> rfl

theorem right_at {n : Nat} {c : Ch} (h : rightS n c = true) (i : Nat) (hi : i < c.length) : freeS n (keyAt c i) = true ∧ (c.getD i (0, [])).2.length = 128 := by
  have := List.all_eq_true.1 h i (List.mem_range.2 hi)
  unfold okAt at this
  simp only [Bool.and_eq_true, beq_iff_eq] at this
  exact this.1

theorem right_mem {n : Nat} {c : Ch} (h : rightS n c = true) (x : Int × Blk) (hx : x ∈ c) : (0 ≤ x.1 ∧ x.1 < (n : Int) ∧ (x.1 < 1 ∨ 42 ≤ x.1)) ∧ x.2.length = 128 := by
  obtain ⟨i, hi, rfl⟩ := List.getElem_of_mem hx
  have := right_at h i hi
  unfold keyAt freeS at this
  rw [getD_lt hi, decide_eq_true_eq] at this
  exact this

theorem right_fits {n : Nat} {c : Ch} (h : rightS n c = true) : fits n c := fun x hx => by
  have := right_mem h x hx
  exact ⟨this.1.1, this.1.2.1, this.2⟩
end Go.Proofs.YtiodpeekbeahlaaGreatDoor.Abs.Lg

namespace Go.Proofs.YtiodpeekbeahlaaGreatDoor.Abs.Lg
open Go
set_option linter.unusedVariables false
attribute [-simp] List.getD_eq_getElem?_getD

/-! ### The same blocks, but for the log's -/

def sameS (a b : List Blk) : Prop := a.length = b.length ∧ ∀ i : Nat, i < a.length → ownS (i : Int) = false → a.getD i [] = b.getD i []

theorem sameS.refl (a : List Blk) : sameS a a := ⟨rfl, fun _ _ _ => rfl⟩
theorem sameS.symm {a b : List Blk} (h : sameS a b) : sameS b a := ⟨h.1.symm, fun i hi ho => (h.2 i (by rw [h.1]; exact hi) ho).symm⟩
theorem sameS.trans {a b c : List Blk} (h : sameS a b) (k : sameS b c) : sameS a c := ⟨h.1.trans k.1, fun i hi ho => (h.2 i hi ho).trans (k.2 i (by rw [← h.1]; exact hi) ho)⟩

theorem setB (a : List Blk) (i j : Nat) (b : Blk) : (a.set i b).getD j [] = if i = j ∧ j < a.length then b else a.getD j [] := by
  simp only [List.getD, List.getElem?_set]
  by_cases h : i = j
  · subst h
    by_cases h2 : i < a.length
    · simp [h2]
    · simp [h2]
  · simp [h]

theorem sameS.set {a b : List Blk} (h : sameS a b) (i : Nat) (x : Blk) : sameS (a.set i x) (b.set i x) := by
  refine ⟨by simp [h.1], fun j hj ho => ?_⟩
  rw [List.length_set] at hj
  rw [setB, setB, h.2 j hj ho, h.1]
theorem sameS.own {a b : List Blk} (h : sameS a b) (i : Nat) (x : Blk) (hi : ownS (i : Int) = true) : sameS (a.set i x) b := by
  refine ⟨by simp [h.1], fun j hj ho => ?_⟩
  rw [List.length_set] at hj
  rw [setB, if_neg, h.2 j hj ho]
  rintro ⟨rfl, _⟩
  rw [ho] at hi
  cases hi
theorem sameS.put (c : Ch) : ∀ {a b : List Blk}, sameS a b → sameS (putS a c) (putS b c) := by
  induction c with
  | nil => intro a b h; exact h
  | cons x c ih =>
    intro a b h
    unfold putS at ih ⊢
    rw [List.foldl_cons, List.foldl_cons]
    exact ih (h.set _ _)
theorem sameS.putOwn (c : Ch) : ∀ {a b : List Blk}, sameS a b → (∀ x ∈ c, 0 ≤ x.1 ∧ ownS x.1 = true) → sameS (putS a c) b := by
  induction c with
  | nil => intro a b h _; exact h
  | cons x c ih =>
    intro a b h ho
    unfold putS at ih ⊢
    rw [List.foldl_cons]
    have hx := ho x List.mem_cons_self
    refine ih (h.own _ _ ?_) (fun y hy => ho y (List.mem_cons_of_mem _ hy))
    rw [show ((x.1.toNat : Nat) : Int) = x.1 by omega]
    exact hx.2

theorem refSame_is {a b : List Blk} (h : sameS a b) (hl : a.length ≤ 2000000) : rf11_Same (a, b) = some true := by
  have hb := h.1
  have := loop_run (f := rf11_Same.l1) (fun i => (a, b, (i : Int))) (n := a.length) (r := .inl ()) (fun i hi => by
    have hab := h.2 i hi
    unfold rf11_Same.l1
    simp only
    rw [if_pos (by simpa using hi), own_is, Option.bind_some, wrap_succ (by omega)]
    cases ho : ownS (i : Int) with
    | true => rw [if_neg (by simp)]
    | false =>
      rw [if_pos (by rfl), if_pos (by omega), if_pos (by omega), getD_nat, getD_nat, hab ho, if_neg (by simp)]) (by
    unfold rf11_Same.l1
    simp)
  unfold rf11_Same
  simp only
  rw [if_neg (by simp [hb]), show ((a, b, (0 : Int)) : List Blk × List Blk × Int) = (a, b, ((0 : Nat) : Int)) from rfl, this]
  rfl

theorem put_succ (a : List Blk) (c : Ch) (i : Nat) (hi : i < c.length) : putS a (c.take (i + 1)) = (putS a (c.take i)).set (keyAt c i).toNat (c.getD i (0, [])).2 := by
  rw [take_succ_getD hi (0, [])]
  unfold putS
  rw [List.foldl_append]
  rfl

/-! ### Commits -/

theorem numbers_is (c : Ch) (hc : c.length ≤ 2000000) : log_numbers c = some (c.map (·.1)) := by
  have := loop_run (f := log_numbers.l1) (fun i => ((c.take i).map (·.1), c, (c.length : Int), (i : Int))) (n := c.length) (r := c.map (·.1)) (fun i hi => by
    unfold log_numbers.l1
    simp only
    rw [if_pos (by simpa using hi), if_pos (by omega), getD_nat, if_pos (room (by decide) (by simp; omega)), wrap_succ (by omega), take_succ_getD hi (0, []), List.map_append]
    rfl) (by
    unfold log_numbers.l1
    simp)
  unfold log_numbers
  rw [show (([] : List Int), c, (c.length : Int), (0 : Int)) = ((c.take 0).map (·.1), c, (c.length : Int), ((0 : Nat) : Int)) from rfl, this]
  rfl

def loggedS (c : Ch) : Ch := (List.range c.length).map fun (k : Nat) => (2 + (k : Int), (c.getD k (0, [])).2)

theorem logged_len (c : Ch) : (loggedS c).length = c.length := by unfold loggedS; simp

/-- The blocks behind a commit. -/
def commS (xs : List Blk) (c : Ch) : List Blk := (putS (putS (putS xs (loggedS c)) [(1, headS (c.map (·.1)))]) c).set 1 zeroS

theorem comm_len (xs : List Blk) (c : Ch) : (commS xs c).length = xs.length := by
  unfold commS
  rw [List.length_set, putS_len, putS_len, putS_len]
theorem comm_head (xs : List Blk) (c : Ch) (h : 2 ≤ xs.length) : (commS xs c).getD 1 [] = zeroS := by
  unfold commS
  rw [setB, if_pos ⟨rfl, by rw [putS_len, putS_len, putS_len]; omega⟩]
theorem comm_same {xs ys : List Blk} (h : sameS xs ys) (c : Ch) (hc : c.length ≤ 40) : sameS (commS xs c) (putS ys c) := by
  unfold commS
  refine sameS.own (sameS.put _ (sameS.own (sameS.putOwn _ h fun x hx => ?_) 1 _ rfl)) 1 _ rfl
  unfold loggedS at hx
  obtain ⟨k, hk, rfl⟩ := List.mem_map.1 hx
  have := List.mem_range.1 hk
  refine ⟨by simp only; omega, ?_⟩
  unfold ownS
  rw [decide_eq_true_eq]
  simp only
  omega

theorem log_commit {n m : Nat} {k c : Int} {xs : List Blk} (h : Okay n m ((c, -1), xs, [])) (hn : 64 ≤ n) (hm : m + 100 ≤ 100000) (hk : 0 ≤ k ∧ k < 1000000) {ch : Ch} (hc : ch.length ≤ 2000000) :
    log_Log_Commit (((false, k), (c, -1), xs, []), ch) = some (if mayS n ch = 0 ∧ ch ≠ [] then (((false, k + 1), (c + 2 * ch.length + 6, -1), commS xs ch, []), 0) else (((false, k), (c, -1), xs, []), mayS n ch)) ∧
    (mayS n ch = 0 ∧ ch ≠ [] → Okay n (m + 86) ((c + 2 * ch.length + 6, -1), commS xs ch, [])) := by
  have hf := h.firm
  have hr := h.room
  simp only at hf
  unfold log_Log_Commit
  simp only
  rw [may_is _ _ _ hc, Option.bind_some]
  simp only
  rw [hf]
  by_cases h0 : mayS n ch = 0
  · rw [if_pos (by rw [h0]; rfl)]
    cases ch with
    | nil => exact ⟨by rw [if_pos (by rfl), if_neg (fun q => q.2 rfl)], fun q => absurd rfl q.2⟩
    | cons x0 ch0 =>
      generalize hce : (x0 :: ch0 : Ch) = ch at hc h0
      have hne : ch ≠ [] := by rw [← hce]; simp
      rw [if_neg (by rw [← hce]; simp; omega), if_pos ⟨h0, hne⟩]
      have h40 : ch.length ≤ 40 := by
        unfold mayS at h0
        by_cases q : ch.length > 40
        · rw [if_pos q] at h0; cases h0
        · omega
      have hright : rightS n ch = true := by
        unfold mayS at h0
        rw [if_neg (by omega)] at h0
        cases q : rightS n ch with
        | true => rfl
        | false => rw [q] at h0; cases h0
      have hfit := right_fits hright
      have hlog := loop_run (f := log_Log_Commit.l1) (fun i => (((false, k), (c, -1), xs, [], ch, (List.range i).map fun (k : Nat) => (2 + (k : Int), (ch.getD k (0, [])).2)), ch, (ch.length : Int), (i : Int))) (n := ch.length) (r := ((false, k), (c, -1), xs, [], ch, loggedS ch)) (fun i hi => by
        unfold log_Log_Commit.l1
        simp only
        rw [if_pos (by simpa using hi), if_pos (by omega), if_pos (room (by decide) (by simp; omega)), getD_nat, wrap_succ (by omega), wrap64 (n := 2 + (i : Int)) (by omega) (by omega), List.range_succ, List.map_append]
        rfl) (by
        unfold log_Log_Commit.l1
        simp only
        rw [if_neg (by simp)]
        rfl)
      have e0 : ((((false, k), (c, -1), xs, [], ch, []), ch, (ch.length : Int), (0 : Int)) : ((Bool × Int) × (Int × Int) × List Blk × Loo × Ch × Ch) × Ch × Int × Int) = (((false, k), (c, -1), xs, [], ch, (List.range 0).map fun (k : Nat) => (2 + (k : Int), (ch.getD k (0, [])).2)), ch, (ch.length : Int), ((0 : Nat) : Int)) := rfl
      rw [e0, hlog, Option.bind_some]
      simp only
      have hfl : fits n (loggedS ch) := fun x hx => by
        unfold loggedS at hx
        obtain ⟨k, hk, rfl⟩ := List.mem_map.1 hx
        have := List.mem_range.1 hk
        refine ⟨by simp only; omega, by simp only; omega, (right_at hright k this).2⟩
      obtain ⟨w1, o1⟩ := log_write (p := (false, k)) h hfl (by rw [logged_len]; omega)
      rw [logged_len] at w1 o1
      have hfh : fits n [(1, headS (ch.map (·.1)))] := fits_head (by omega) _ (by simpa using h40)
      obtain ⟨w2, o2⟩ := log_write (p := (false, k)) o1 hfh (by simp; omega)
      obtain ⟨w3, o3⟩ := log_apply (p := (false, k)) o2 (by omega) hfit (by simp; omega)
      have e1 : c + (ch.length : Int) + 1 + (([(1, headS (ch.map (·.1)))] : Ch).length : Int) + 1 + (ch.length : Int) + 3 = c + 2 * (ch.length : Int) + 6 := by simp; omega
      rw [e1] at w3 o3
      have hall : log_all_1 (ch, (false, k), loggedS ch, (c, -1), xs, []) = some ((ch, (false, k), loggedS ch, (c + 2 * (ch.length : Int) + 6, -1), commS xs ch, []), 0) := by
        unfold log_all_1 log_Log_Commit_1
        simp only
        rw [w1, Option.bind_some]
        simp only
        rw [Option.bind_some]
        simp only
        rw [if_neg (by decide)]
        unfold log_Log_Commit_2
        simp only
        rw [numbers_is _ hc, Option.bind_some, head_is _ (by simpa using h40) (fun b hb => by
          obtain ⟨x, hx, rfl⟩ := List.mem_map.1 hb
          have := hfit x hx
          omega), Option.bind_some, w2, Option.bind_some]
        simp only
        rw [Option.bind_some]
        simp only
        rw [if_neg (by decide)]
        unfold log_Log_Commit_3
        simp only
        rw [w3, Option.bind_some]
        simp only
        rw [Option.bind_some]
        simp only
        rw [if_neg (by decide)]
        rfl
      refine ⟨?_, fun _ => o3.mono (by simp; omega) (by omega)⟩
      rw [hall, Option.bind_some]
      simp only
      rw [if_neg (by decide), wrap64 (by omega) (by omega)]
  · rw [if_neg (by simpa using h0), if_neg (fun q => h0 q.1)]
    exact ⟨rfl, fun q => absurd q.1 h0⟩
end Go.Proofs.YtiodpeekbeahlaaGreatDoor.Abs.Lg
