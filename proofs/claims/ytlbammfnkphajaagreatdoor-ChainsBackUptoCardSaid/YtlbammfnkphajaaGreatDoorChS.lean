/- Chains: plain laws, fitted. -/
import Derived.Test.YtlbammfnkphajaaGreatDoorChK
namespace Go.Proofs.YtlbammfnkphajaaGreatDoor.Abs
open Go
set_option linter.unusedVariables false
attribute [-simp] List.getD_eq_getElem?_getD

def byteAt (m : List UInt8) (i : Nat) : Nat := (m.getD i 0).toNat

theorem byteAt_lt (m : List UInt8) (i : Nat) : byteAt m i < 256 := (m.getD i 0).toNat_lt

/-- Whether block i is taken. -/

def isM (m : List UInt8) (i : Int) : Bool := if 0 ≤ i ∧ i < 8 * (m.length : Int) then (byteAt m (i.toNat / 8)).testBit (i.toNat % 8) else true

theorem there_is (m : List UInt8) (i : Int) (h : m.length ≤ 1048576) : marks_there (m, i) = some (decide (0 ≤ i ∧ i < 8 * (m.length : Int))) := by
  unfold marks_there
  dsimp only
  rw [wrap64 (n := 8 * (m.length : Int)) (by omega) (by omega)]
  by_cases h0 : 0 ≤ i
  · rw [if_pos (by simpa using h0)]; simp [h0]
  · rw [if_neg (by simpa using h0)]; simp [h0]

theorem bit_is : ∀ b : Fin 256, ∀ r : Fin 8, (bitsOp .and .u8 (Int.fdiv ((b.val : Nat) : Int) (2 ^ (min r.val 8))) 1 == 1) = b.val.testBit r.val := by decide +kernel

theorem divmod (m : List UInt8) (i : Int) (h0 : 0 ≤ i) (h1 : i < 8 * (m.length : Int)) (h : m.length ≤ 1048576) :
    IntKind.i64.wrap (Int.tdiv i 8) = ((i.toNat / 8 : Nat) : Int) ∧ Int.tmod i 8 = ((i.toNat % 8 : Nat) : Int) ∧ i.toNat / 8 < m.length := by
  obtain ⟨n, rfl⟩ : ∃ n : Nat, i = (n : Int) := ⟨i.toNat, by omega⟩
  refine ⟨?_, ?_, by simp; omega⟩
  · rw [wrap64] <;> simp [Int.tdiv_eq_ediv_of_nonneg] <;> omega
  · rw [Int.tmod_eq_emod_of_nonneg (by omega)]; simp

theorem Is_is (m : List UInt8) (i : Int) (h : m.length ≤ 1048576) : marks_Is (m, i) = some (isM m i) := by
  unfold marks_Is isM
  dsimp only
  rw [there_is m i h]
  simp only [Option.bind_some]
  by_cases hc : 0 ≤ i ∧ i < 8 * (m.length : Int)
  · obtain ⟨e1, e2, e3⟩ := divmod m i hc.1 hc.2 h
    rw [if_pos (by simp [hc]), e1, e2, if_pos (by omega), if_pos (by omega), if_pos hc]
    simp only [Int.toNat_natCast]
    have := bit_is ⟨byteAt m (i.toNat / 8), byteAt_lt _ _⟩ ⟨i.toNat % 8, by omega⟩
    rw [← this]; rfl
  · rw [if_neg (by simp; omega), if_neg hc]

theorem bit2_is : ∀ b : Fin 256, ∀ r : Fin 8, (Int.tmod ((b.val / 2 ^ r.val : Nat) : Int) 2 == 1) = b.val.testBit r.val := by decide +kernel

theorem refIs_is (m : List UInt8) (i : Int) (h : m.length ≤ 1048576) : rf03_Is (m, i) = some (isM m i) := by
  unfold rf03_Is isM
  dsimp only
  rw [wrap64 (n := 8 * (m.length : Int)) (by omega) (by omega)]
  by_cases h0 : 0 ≤ i
  · rw [if_pos (by simpa using h0)]
    by_cases h1 : i < 8 * (m.length : Int)
    · obtain ⟨e1, e2, e3⟩ := divmod m i h0 h1 h
      rw [if_neg (by simpa using h1), e1, if_pos (by omega), if_pos ⟨h0, h1⟩]
      simp only [Int.toNat_natCast]
      have hb := byteAt_lt m (i.toNat / 8)
      rw [show ((m.getD (i.toNat / 8) 0).toNat : Int) = ((byteAt m (i.toNat / 8) : Nat) : Int) from rfl, wrap_nat (by omega)]
      generalize byteAt m (i.toNat / 8) = b at hb ⊢
      have hr : i.toNat % 8 < 8 := by omega
      generalize hrr : i.toNat % 8 = r at hr e2 ⊢
      have := loop_run (f := rf03_Is.l1) (fun k => (i, ((b / 2 ^ k : Nat) : Int), (k : Int))) (n := r) (r := ((b / 2 ^ r : Nat) : Int)) (fun k hk => by
        unfold rf03_Is.l1
        dsimp only
        rw [e2, if_pos (by simpa using hk), wrap_succ (by omega)]
        have : b / 2 ^ k < 256 := Nat.lt_of_le_of_lt (Nat.div_le_self _ _) hb
        have e : Int.tdiv ((b / 2 ^ k : Nat) : Int) 2 = ((b / 2 ^ (k + 1) : Nat) : Int) := by
          rw [Int.tdiv_eq_ediv_of_nonneg (Int.natCast_nonneg _), Nat.pow_succ, ← Nat.div_div_eq_div_mul]
          simp
        rw [e, wrap_nat]
        have : b / 2 ^ (k + 1) ≤ b := Nat.div_le_self _ _
        omega) (by
        unfold rf03_Is.l1
        dsimp only
        rw [e2, if_neg (by simp)])
      rw [show (((b : Nat) : Int)) = ((b / 2 ^ 0 : Nat) : Int) by simp, show (0 : Int) = ((0 : Nat) : Int) from rfl, this]
      simp only [Option.bind_some]
      exact congrArg some (bit2_is ⟨b, hb⟩ ⟨r, hr⟩)
    · rw [if_pos (by simpa using h1), if_neg (by omega)]
  · rw [if_neg (by simpa using h0), if_neg (by omega)]

def flipB (b r : Nat) : UInt8 := UInt8.ofNat (b ^^^ 2 ^ r)

def setM (m : List UInt8) (i : Int) (yes : Bool) : List UInt8 :=
  if 0 ≤ i ∧ i < 8 * (m.length : Int) then (if isM m i = yes then m else m.set (i.toNat / 8) (flipB (byteAt m (i.toNat / 8)) (i.toNat % 8))) else m

theorem flip_is : ∀ b : Fin 256, ∀ r : Fin 8, UInt8.ofNat (bitsOp .xor .u8 (b.val : Int) (IntKind.u8.wrap (1 * 2 ^ (min r.val 8)))).toNat = flipB b.val r.val := by decide +kernel

theorem map_back (m : List UInt8) : (m.map fun b => (b.toNat : Int)).map (fun (n : Int) => UInt8.ofNat n.toNat) = m := by
  rw [List.map_map]
  conv => rhs; rw [← List.map_id m]
  exact List.map_congr_left fun b _ => by simp

theorem map_getD (m : List UInt8) (i : Nat) : (m.map fun b => (b.toNat : Int)).getD i 0 = (byteAt m i : Int) := by
  unfold byteAt
  by_cases h : i < m.length
  · simp [List.getD, h]
  · simp [List.getD, h]

theorem setBit_same (m : List UInt8) (i : Nat) (r : Nat) (hr : r < 8) : ((m.map fun b => (b.toNat : Int)).set i (bitsOp .xor .u8 ((m.map fun b => (b.toNat : Int)).getD i 0) (IntKind.u8.wrap (1 * 2 ^ (min r 8))))).map (fun (n : Int) => UInt8.ofNat n.toNat) = m.set i (flipB (byteAt m i) r) := by
  rw [List.map_set, map_back, map_getD]
  have := flip_is ⟨byteAt m i, byteAt_lt _ _⟩ ⟨r, hr⟩
  dsimp only at this
  rw [this]

theorem Set_is (m : List UInt8) (i : Int) (yes : Bool) (h : m.length ≤ 1048576) : marks_Set (m, i, yes) = some (setM m i yes) := by
  unfold marks_Set setM
  dsimp only
  rw [there_is m i h, Is_is m i h]
  simp only [Option.bind_some]
  by_cases hc : 0 ≤ i ∧ i < 8 * (m.length : Int)
  · obtain ⟨e1, e2, e3⟩ := divmod m i hc.1 hc.2 h
    rw [if_pos (by simp [hc]), if_pos hc]
    by_cases hy : isM m i = yes
    · rw [if_pos (by simpa using hy), if_pos hy]
    · rw [if_neg (by simpa using hy), if_neg hy, e1, e2, List.length_map, if_pos (by omega), if_pos (by omega), if_pos (by omega)]
      simp only [Int.toNat_natCast]
      rw [setBit_same m _ _ (by omega)]
  · rw [if_neg (by simp; omega), if_neg hc]

theorem refSet_is (m : List UInt8) (i : Int) (yes : Bool) (h : m.length ≤ 1048576) : rf03_Set (m, i, yes) = some (setM m i yes) := by
  unfold rf03_Set setM
  dsimp only
  rw [refIs_is m i h, wrap64 (n := 8 * (m.length : Int)) (by omega) (by omega)]
  simp only [Option.bind_some]
  by_cases hc : 0 ≤ i ∧ i < 8 * (m.length : Int)
  · obtain ⟨e1, e2, e3⟩ := divmod m i hc.1 hc.2 h
    rw [if_pos (by simp; omega), if_pos (by simp; omega), if_pos hc]
    by_cases hy : isM m i = yes
    · rw [if_pos (by simpa using hy), if_pos hy]
    · rw [if_neg (by simpa using hy), if_neg hy, e1, e2, List.length_map, wrapu64 (by omega) (by omega), if_pos (by omega), if_pos (by omega), if_pos (by omega)]
      simp only [Int.toNat_natCast]
      rw [setBit_same m _ _ (by omega)]
  · rw [if_neg hc]
    by_cases h0 : 0 ≤ i
    · rw [if_pos (by simp; omega), if_neg (by simp; omega)]
    · rw [if_neg (by simp; omega)]

/-! ### How many -/

def cnt (m : List UInt8) : Nat → Nat
  | 0 => 0
  | n + 1 => cnt m n + (isM m n).toNat

theorem cnt_le (m : List UInt8) : ∀ n, cnt m n ≤ n
  | 0 => Nat.le_refl _
  | n + 1 => by
    have := cnt_le m n
    have h2 := Bool.toNat_le (isM m n)
    rw [cnt]; omega

def limN (n : Int) : Nat := (if 100000 < (if 0 > n then 0 else n) then 100000 else (if 0 > n then 0 else n)).toNat

theorem lim_is (n : Int) : (if 100000 < (if 0 > n then 0 else n) then 100000 else (if 0 > n then 0 else n)) = ((limN n : Nat) : Int) ∧ limN n ≤ 100000 ∧ (n < 0 → limN n = 0) ∧ (0 ≤ n → n ≤ 100000 → (limN n : Int) = n) ∧ (100000 < n → limN n = 100000) := by
  unfold limN
  split <;> split at * <;> omega

/-- How many bits of a byte are 1, up to bit r. -/

def pop (b : Nat) : Nat → Nat
  | 0 => 0
  | r + 1 => pop b r + (b.testBit r).toNat

theorem ones_is : ∀ b : Fin 256, bits_OnesCount8 (b.val : Int) = some ((pop b.val 8 : Nat) : Int) := by decide +kernel

theorem mask_is : ∀ b : Fin 256, ∀ r : Fin 8, bits_OnesCount8 (bitsOp .and .u8 (b.val : Int) (IntKind.u8.wrap ((IntKind.u8.wrap (1 * 2 ^ (min r.val 8))) - 1))) = some ((pop b.val r.val : Nat) : Int) := by decide +kernel

theorem cnt_byte (m : List UInt8) (k : Nat) (hk : k < m.length) : ∀ r, r ≤ 8 → cnt m (8 * k + r) = cnt m (8 * k) + pop (byteAt m k) r
  | 0, _ => by simp [pop]
  | r + 1, hr => by
    rw [← Nat.add_assoc, cnt, cnt_byte m k hk r (by omega), pop]
    have : isM m ((8 * k + r : Nat) : Int) = (byteAt m k).testBit r := by
      unfold isM
      rw [if_pos (by omega), Int.toNat_natCast, show (8 * k + r) / 8 = k by omega, show (8 * k + r) % 8 = r by omega]
    rw [this]; omega

theorem cnt_out (m : List UInt8) (a : Nat) (ha : 8 * m.length ≤ a) : ∀ d, cnt m (a + d) = cnt m a + d
  | 0 => rfl
  | d + 1 => by
    rw [← Nat.add_assoc, cnt, cnt_out m a ha d]
    have : isM m ((a + d : Nat) : Int) = true := by
      unfold isM
      rw [if_neg (by omega)]
    rw [this]; rfl

theorem Count_is (m : List UInt8) (n : Int) (h : m.length ≤ 1048576) : marks_Count (m, n) = some ((cnt m (limN n) : Nat) : Int) := by
  obtain ⟨q0, q1, _⟩ := lim_is n
  unfold marks_Count
  dsimp only
  rw [q0]
  generalize limN n = L at q1
  have e1 : IntKind.i64.wrap (Int.tdiv (L : Int) 8) = ((L / 8 : Nat) : Int) := by
    rw [Int.tdiv_eq_ediv_of_nonneg (by omega), wrap64] <;> omega
  rw [e1, wrap64 (n := 8 * (m.length : Int)) (by omega) (by omega), wrap64 (n := (L : Int) - 8 * (m.length : Int)) (by omega) (by omega)]
  obtain ⟨W, hW, hW1, hW2⟩ : ∃ W : Nat, (if (m.length : Int) < ((L / 8 : Nat) : Int) then (m.length : Int) else ((L / 8 : Nat) : Int)) = (W : Int) ∧ W ≤ m.length ∧ (W = L / 8 ∨ (W = m.length ∧ W < L / 8)) := by
    by_cases hh : m.length < L / 8
    · exact ⟨m.length, by rw [if_pos (by omega)], by omega, .inr ⟨rfl, hh⟩⟩
    · exact ⟨L / 8, by rw [if_neg (by omega)], by omega, .inl rfl⟩
  rw [hW, if_pos (by omega)]
  obtain ⟨X, hX, hX2⟩ : ∃ X : Nat, (if 0 > (L : Int) - 8 * (m.length : Int) then 0 else (L : Int) - 8 * (m.length : Int)) = (X : Int) ∧ X = L - 8 * m.length := ⟨L - 8 * m.length, by split <;> omega, rfl⟩
  rw [hX]
  simp only [Int.toNat_natCast]
  have hlen : ((m.take W).map fun b => (b.toNat : Int)).length = W := by simp; omega
  rw [hlen]
  have hc : ∀ k, cnt m (8 * k) ≤ 8 * k := fun k => cnt_le m _
  have := loop_run (f := marks_Count.l1) (fun k => (m, (L : Int), (W : Int), ((X + cnt m (8 * k) : Nat) : Int), (m.take W).map (fun b => (b.toNat : Int)), (W : Int), (k : Int))) (n := W) (r := (m, (L : Int), (W : Int), ((X + cnt m (8 * W) : Nat) : Int))) (fun k hk => by
    have h1 := hc k
    unfold marks_Count.l1
    dsimp only
    rw [if_pos (by simp; omega), hlen, if_pos (by omega)]
    have e2 : ((m.take W).map fun b => (b.toNat : Int)).getD ((k : Int)).toNat 0 = ((byteAt m k : Nat) : Int) := by
      rw [Int.toNat_natCast]
      simp [byteAt, List.getD, List.getElem?_take, hk, show k < m.length by omega]
    rw [e2, ones_is ⟨byteAt m k, byteAt_lt _ _⟩]
    simp only [Option.bind_some]
    have e3 := cnt_byte m k (by omega) 8 (Nat.le_refl _)
    have e4 := hc (k + 1)
    rw [show 8 * (k + 1) = 8 * k + 8 by omega, e3] at e4 ⊢
    rw [wrap_succ (by omega)]
    rw [show (((X + cnt m (8 * k) : Nat) : Int) + ((pop (byteAt m k) 8 : Nat) : Int)) = ((X + cnt m (8 * k) + pop (byteAt m k) 8 : Nat) : Int) by omega, wrap_nat (by omega), Nat.add_assoc]) (by
    unfold marks_Count.l1
    dsimp only
    rw [if_neg (by simp)])
  rw [show ((X : Nat) : Int) = ((X + cnt m (8 * 0) : Nat) : Int) by simp [cnt], show (0 : Int) = ((0 : Nat) : Int) from rfl, this]
  simp only [Option.bind_some]
  have h1 := hc W
  have e5 : IntKind.i64.wrap ((L : Int) - IntKind.i64.wrap (8 * (W : Int))) = (L : Int) - 8 * (W : Int) := by
    rw [wrap64 (n := 8 * (W : Int)) (by omega) (by omega), wrap64 (by omega) (by omega)]
  rw [e5]
  by_cases hWm : W < m.length
  · rw [if_pos (by simp; omega)]
    simp only [Option.bind_some]
    have hWL : W = L / 8 := by omega
    have hX0 : X = 0 := by omega
    by_cases hr : 0 < L % 8
    · rw [if_pos (by simp; omega), if_pos (by omega), if_pos (by omega)]
      have e6 : (L : Int) - 8 * (W : Int) = ((L % 8 : Nat) : Int) := by omega
      rw [e6, Int.toNat_natCast, Int.toNat_natCast]
      have := mask_is ⟨byteAt m W, byteAt_lt _ _⟩ ⟨L % 8, by omega⟩
      dsimp only at this
      rw [show (((m.getD W 0).toNat : Nat) : Int) = ((byteAt m W : Nat) : Int) from rfl, this]
      simp only [Option.bind_some]
      have e7 := cnt_byte m W hWm (L % 8) (by omega)
      have e8 := cnt_le m (8 * W + L % 8)
      rw [show (((X + cnt m (8 * W) : Nat) : Int) + ((pop (byteAt m W) (L % 8) : Nat) : Int)) = ((X + cnt m (8 * W) + pop (byteAt m W) (L % 8) : Nat) : Int) by omega, wrap_nat (by omega)]
      have hL : cnt m L = cnt m (8 * W) + pop (byteAt m W) (L % 8) := by
        rw [← e7, show 8 * W + L % 8 = L by omega]
      rw [hL, hX0]
      exact congrArg some (by omega)
    · rw [if_neg (by simp; omega)]
      have : L = 8 * W := by omega
      rw [this, hX0]; simp
  · rw [if_neg (by simp; omega)]
    simp only [Option.bind_some, Bool.false_eq_true, if_false]
    have hWe : W = m.length := by omega
    have := cnt_out m (8 * m.length) (Nat.le_refl _) (L - 8 * m.length)
    rw [show 8 * m.length + (L - 8 * m.length) = L by omega] at this
    rw [this, hX2, hWe]
    congr 1
    omega

/-! ### The laws -/

theorem setM_len (m : List UInt8) (i : Int) (y : Bool) : (setM m i y).length = m.length := by
  unfold setM
  split
  · split <;> simp
  · rfl

theorem flip_bit : ∀ b : Fin 256, ∀ r : Fin 8, ∀ q : Fin 8, (flipB b.val r.val).toNat.testBit q.val = if q = r then !b.val.testBit q.val else b.val.testBit q.val := by decide +kernel

theorem byteAt_set (m : List UInt8) (i q : Nat) (v : UInt8) (hi : i < m.length) : byteAt (m.set i v) q = if q = i then v.toNat else byteAt m q := by
  unfold byteAt
  by_cases h : q = i
  · subst h; simp [List.getD, hi]
  · have h' : i ≠ q := fun e => h e.symm
    simp [List.getD, h, h']

/-- One bit is changed, the others stay. -/

theorem isM_set (m : List UInt8) (i q : Int) (y : Bool) (hi : 0 ≤ i ∧ i < 8 * (m.length : Int)) : isM (setM m i y) q = if q = i then y else isM m q := by
  have hl := setM_len m i y
  by_cases hy : isM m i = y
  · have : setM m i y = m := by unfold setM; rw [if_pos hi, if_pos hy]
    rw [this]
    split
    · rename_i e; rw [e, hy]
    · rfl
  · have hs : setM m i y = m.set (i.toNat / 8) (flipB (byteAt m (i.toNat / 8)) (i.toNat % 8)) := by unfold setM; rw [if_pos hi, if_neg hy]
    have hlt : i.toNat / 8 < m.length := by omega
    by_cases hq : 0 ≤ q ∧ q < 8 * (m.length : Int)
    · have e1 : isM (setM m i y) q = (byteAt (setM m i y) (q.toNat / 8)).testBit (q.toNat % 8) := by
        unfold isM; rw [hl, if_pos hq]
      have e2 : isM m q = (byteAt m (q.toNat / 8)).testBit (q.toNat % 8) := by unfold isM; rw [if_pos hq]
      have e3 : isM m i = (byteAt m (i.toNat / 8)).testBit (i.toNat % 8) := by unfold isM; rw [if_pos hi]
      rw [e1, hs, byteAt_set _ _ _ _ hlt]
      by_cases hb : q.toNat / 8 = i.toNat / 8
      · rw [if_pos hb]
        have := flip_bit ⟨byteAt m (i.toNat / 8), byteAt_lt _ _⟩ ⟨i.toNat % 8, by omega⟩ ⟨q.toNat % 8, by omega⟩
        simp only [Fin.mk.injEq] at this
        rw [this]
        by_cases hqi : q = i
        · subst hqi
          rw [if_pos rfl, if_pos rfl, ← e3]
          cases h1 : isM m q <;> cases y <;> simp_all
        · rw [if_neg (by omega), if_neg hqi, e2, hb]
      · rw [if_neg hb, if_neg (by intro e; subst e; exact hb rfl), e2]
    · rw [if_neg (by intro e; subst e; exact hq hi)]
      unfold isM
      rw [hl, if_neg hq, if_neg hq]

def rowAt (m : List UInt8) (s : Nat) : Nat → Nat
  | 0 => 0
  | k + 1 => if isM m ((s + k : Nat) : Int) = true then 0 else rowAt m s k + 1

theorem rowAt_le (m : List UInt8) (s : Nat) : ∀ k, rowAt m s k ≤ k
  | 0 => Nat.le_refl _
  | k + 1 => by
    have := rowAt_le m s k
    simp only [rowAt]; split <;> omega

/-- The last so many are free. -/

theorem rowAt_free (m : List UInt8) (s : Nat) : ∀ k q, k - rowAt m s k ≤ q → q < k → isM m ((s + q : Nat) : Int) = false
  | 0, q, _, h => by omega
  | k + 1, q, h1, h2 => by
    simp only [rowAt] at h1
    have hr := rowAt_le m s k
    split at h1
    · omega
    · rename_i hc
      by_cases hq : q = k
      · subst hq; simpa using hc
      · exact rowAt_free m s k q (by omega) (by omega)

/-- Where so many are free, the row is as long. -/

theorem rowAt_ge (m : List UInt8) (s p : Nat) : ∀ d, (∀ q, p ≤ q → q < p + d → isM m ((s + q : Nat) : Int) = false) → d ≤ rowAt m s (p + d)
  | 0, _ => Nat.zero_le _
  | d + 1, h => by
    have ih := rowAt_ge m s p d fun q h1 h2 => h q h1 (by omega)
    have h0 := h (p + d) (by omega) (by omega)
    rw [← Nat.add_assoc, rowAt, h0]
    simp; omega

/-- A row that was never c is shorter than c. -/

theorem rowAt_lt (m : List UInt8) (s c : Nat) (hc : 0 < c) : ∀ k, (∀ j, j < k → rowAt m s (j + 1) ≠ c) → rowAt m s k < c
  | 0, _ => hc
  | k + 1, h => by
    have ih := rowAt_lt m s c hc k fun j hj => h j (by omega)
    have h0 := h k (by omega)
    simp only [rowAt] at h0 ⊢
    split
    · exact hc
    · rename_i hx
      rw [if_neg hx] at h0
      omega

def bound (m : List UInt8) (n : Int) : Int := if 8 * (m.length : Int) < n then 8 * (m.length : Int) else n

def start (a : Int) : Nat := (if 0 > a then 0 else a).toNat

theorem Run_is (m : List UInt8) (a b c : Int) (h : m.length ≤ 1048576) (hc : 1 ≤ c) (ha : a < 9223372036854775808) (hcb : c < 9223372036854775808) (hb : -9223372036854775808 ≤ b) :
    (∃ k : Nat, ((start a + k : Nat) : Int) < bound m b ∧ (rowAt m (start a) (k + 1) : Int) = c ∧ (∀ j, j < k → (rowAt m (start a) (j + 1) : Int) ≠ c) ∧ marks_Run (m, a, b, c) = some (((start a + k + 1 : Nat) : Int) - c, true)) ∨
    ((∀ k : Nat, ((start a + k : Nat) : Int) < bound m b → (rowAt m (start a) (k + 1) : Int) ≠ c) ∧ marks_Run (m, a, b, c) = some (0, false)) := by
  have hs : (if 0 > a then 0 else a) = ((start a : Nat) : Int) := by unfold start; split <;> omega
  have hB : bound m b ≤ 8388608 := by unfold bound; split <;> omega
  obtain ⟨j, _, hj, hbefore, hstop, hrun⟩ := loop_first (f := marks_Run.l1) (fun k => (m, bound m b, c, ((rowAt m (start a) k : Nat) : Int), ((start a + k : Nat) : Int))) (fun k => decide ((rowAt m (start a) (k + 1) : Int) = c)) (n := (bound m b - (start a : Int)).toNat)
    (r := fun k => if k < (bound m b - (start a : Int)).toNat then .inr (((start a + k + 1 : Nat) : Int) - c, true) else .inl ()) (bound m b - (start a : Int)).toNat 0 (by omega) (fun k _ hk => by
      have hr := rowAt_le m (start a) k
      unfold marks_Run.l1
      dsimp only
      rw [if_pos (by simp; omega), Is_is _ _ h]
      have key : ((((some (isM m ((start a + k : Nat) : Int))).bind fun r30 => if r30 = true then some (m, bound m b, c, (0 : Int), ((start a + k : Nat) : Int)) else some (m, bound m b, c, IntKind.i64.wrap (((rowAt m (start a) k : Nat) : Int) + 1), ((start a + k : Nat) : Int))) : Option (List UInt8 × Int × Int × Int × Int))
          = some (m, bound m b, c, ((rowAt m (start a) (k + 1) : Nat) : Int), ((start a + k : Nat) : Int))) := by
        simp only [Option.bind_some, rowAt]
        split
        · rfl
        · rw [wrap_succ (by omega)]
      rw [key]
      simp only [Option.bind_some, hk, if_true]
      rw [wrap_succ (show start a + k < 9223372036854775807 by omega)]
      by_cases hcc : (rowAt m (start a) (k + 1) : Int) = c
      · rw [if_pos (by simpa using hcc), if_pos (by simpa using hcc), wrap64 (n := ((start a + k + 1 : Nat) : Int) - c) (by omega) (by omega)]
      · rw [if_neg (by simpa using hcc), if_neg (by simpa using hcc)]
        rfl) (by
      unfold marks_Run.l1
      dsimp only
      rw [if_neg (by simp; omega), if_neg (by omega)])
  have hrun' : marks_Run (m, a, b, c) = (some (if j < (bound m b - (start a : Int)).toNat then Sum.inr (((start a + j + 1 : Nat) : Int) - c, true) else Sum.inl ()) : Option (Unit ⊕ (Int × Bool))).bind fun d => match d with | .inl _ => some (0, false) | .inr (t8, t9) => some (t8, t9) := by
    unfold marks_Run
    dsimp only
    rw [if_neg (by simp; omega), wrap64 (n := 8 * (m.length : Int)) (by omega) (by omega), hs]
    rw [show (if 8 * (m.length : Int) < b then 8 * (m.length : Int) else b) = bound m b from rfl]
    rw [show (m, bound m b, c, (0 : Int), ((start a : Nat) : Int)) = (m, bound m b, c, ((rowAt m (start a) 0 : Nat) : Int), ((start a + 0 : Nat) : Int)) from rfl, hrun]
    rfl
  rw [hrun']
  rcases Nat.lt_or_ge j (bound m b - (start a : Int)).toNat with hlt | hge
  · refine .inl ⟨j, by omega, by simpa using hstop hlt, fun q hq => by simpa using hbefore q (by omega) hq, ?_⟩
    rw [if_pos hlt]; rfl
  · refine .inr ⟨fun k hk => by simpa using hbefore k (by omega) (by omega), ?_⟩
    rw [if_neg (by omega)]; rfl

def best (m : List UInt8) : Nat → Nat
  | 0 => 0
  | k + 1 => if rowAt m 0 (k + 1) > best m k then rowAt m 0 (k + 1) else best m k

/-! ### What is taken -/

def taken (m : List UInt8) (i : Nat) : Nat → List UInt8
  | 0 => m
  | k + 1 => setM (taken m i k) ((i + k : Nat) : Int) true

theorem taken_len (m : List UInt8) (i : Nat) : ∀ k, (taken m i k).length = m.length
  | 0 => rfl
  | k + 1 => by rw [taken, setM_len, taken_len m i k]

theorem taken_is (m : List UInt8) (i : Nat) : ∀ k, i + k ≤ 8 * m.length → ∀ q : Int, isM (taken m i k) q = if (i : Int) ≤ q ∧ q < ((i + k : Nat) : Int) then true else isM m q
  | 0, _, q => by rw [if_neg (by omega)]; rfl
  | k + 1, h, q => by
    have hl := taken_len m i k
    rw [taken, isM_set _ _ _ _ (by rw [hl]; omega), taken_is m i k (by omega) q]
    by_cases hq : q = ((i + k : Nat) : Int)
    · rw [if_pos hq, if_pos (by omega)]
    · rw [if_neg hq]
      by_cases hc : (i : Int) ≤ q ∧ q < ((i + k : Nat) : Int)
      · rw [if_pos hc, if_pos (by omega)]
      · rw [if_neg hc, if_neg (by omega)]

def freeB (m : Blk) (i c : Nat) : Bool := (List.range c).all fun k => !isM m ((i + k : Nat) : Int)

theorem free_iff (m : Blk) (i c : Nat) : freeB m i c = true ↔ ∀ q, i ≤ q → q < i + c → isM m (q : Int) = false := by
  unfold freeB
  rw [List.all_eq_true]
  constructor
  · intro h q h1 h2
    have := h (q - i) (List.mem_range.2 (by omega))
    rw [show i + (q - i) = q by omega] at this
    simpa using this
  · intro h k hk
    have hk := List.mem_range.1 hk
    rw [h (i + k) (by omega) (by omega)]
    rfl

def isRun (m : Blk) (s B c i : Nat) : Bool := decide (s ≤ i ∧ i + c ≤ B) && freeB m i c
def runS (m : Blk) (s B c : Nat) : Option Nat := (List.range B).find? (isRun m s B c)

theorem isRun_iff (m : Blk) (s B c i : Nat) : isRun m s B c i = true ↔ s ≤ i ∧ i + c ≤ B ∧ ∀ q, i ≤ q → q < i + c → isM m (q : Int) = false := by
  unfold isRun
  rw [Bool.and_eq_true, decide_eq_true_eq, free_iff]
  exact ⟨fun h => ⟨h.1.1, h.1.2, h.2⟩, fun h => ⟨⟨h.1, h.2.1⟩, h.2.2⟩⟩

theorem find_range (p : Nat → Bool) : ∀ n, (∃ i, (List.range n).find? p = some i ∧ i < n ∧ p i = true ∧ ∀ j, j < i → p j = false) ∨ ((List.range n).find? p = none ∧ ∀ j, j < n → p j = false)
  | 0 => .inr ⟨rfl, fun j hj => by omega⟩
  | n + 1 => by
    rw [List.range_succ, List.find?_append]
    rcases find_range p n with ⟨i, h1, h2, h3, h4⟩ | ⟨h1, h2⟩
    · exact .inl ⟨i, by rw [h1]; rfl, by omega, h3, h4⟩
    · rw [h1]
      cases hp : p n with
      | true => exact .inl ⟨n, by simp [hp], by omega, hp, h2⟩
      | false =>
        refine .inr ⟨by simp [hp], fun j hj => ?_⟩
        by_cases e : j = n
        · rw [e]; exact hp
        · exact h2 j (by omega)

theorem runS_some {m : Blk} {s B c i : Nat} (hB : i < B) (h : isRun m s B c i = true) (hm : ∀ j, j < i → isRun m s B c j = false) : runS m s B c = some i := by
  rcases find_range (isRun m s B c) B with ⟨k, h1, h2, h3, h4⟩ | ⟨h1, h2⟩
  · have : k = i := by
      rcases Nat.lt_trichotomy k i with q | q | q
      · rw [hm k q] at h3; cases h3
      · exact q
      · rw [h4 i q] at h; cases h
    rw [← this]; exact h1
  · rw [h2 i hB] at h; cases h
theorem runS_none {m : Blk} {s B c : Nat} (h : ∀ j, j < B → isRun m s B c j = false) : runS m s B c = none := by
  rcases find_range (isRun m s B c) B with ⟨k, h1, h2, h3, h4⟩ | ⟨h1, h2⟩
  · rw [h k h2] at h3; cases h3
  · exact h1
theorem runS_spec (m : Blk) (s B c : Nat) : (∃ i, runS m s B c = some i ∧ i < B ∧ isRun m s B c i = true ∧ ∀ j, j < i → isRun m s B c j = false) ∨ (runS m s B c = none ∧ ∀ j, j < B → isRun m s B c j = false) := find_range _ B

/-! ### The program's -/

theorem Run_run (m : Blk) (n : Nat) (c : Int) (hl : m.length = 128) (hn : n ≤ 400) (hc : 1 ≤ c) (hc2 : c < 9223372036854775808) :
    marks_Run (m, 51, (n : Int), c) = some (match runS m 51 n c.toNat with | some i => ((i : Int), true) | none => (0, false)) := by
  have hb : bound m (n : Int) = (n : Int) := by unfold bound; rw [hl]; rw [if_neg (by omega)]
  have hs : start 51 = 51 := by decide
  rcases Run_is m 51 n c (by omega) hc (by omega) hc2 (by omega) with ⟨k, h1, h2, h3, h4⟩ | ⟨h1, h2⟩
  · rw [hs] at h1 h2 h3 h4
    rw [hb] at h1
    have hr := rowAt_le m 51 (k + 1)
    have e : runS m 51 n c.toNat = some (51 + k + 1 - c.toNat) := by
      refine runS_some (by omega) ((isRun_iff ..).2 ⟨by omega, by omega, fun q q1 q2 => ?_⟩) (fun j hj => ?_)
      · have := rowAt_free m 51 (k + 1) (q - 51) (by omega) (by omega)
        rwa [show 51 + (q - 51) = q by omega] at this
      · cases hx : isRun m 51 n c.toNat j with
        | false => rfl
        | true =>
          obtain ⟨j1, j2, j3⟩ := (isRun_iff ..).1 hx
          have ge := rowAt_ge m 51 (j - 51) c.toNat fun q q1 q2 => j3 (51 + q) (by omega) (by omega)
          have lt := rowAt_lt m 51 c.toNat (by omega) (j - 51 + c.toNat) fun q hq hcc => h3 q (by omega) (by rw [hcc]; omega)
          omega
    rw [h4, e]
    simp only [Option.some.injEq, Prod.mk.injEq, and_true]
    omega
  · rw [hs] at h1
    rw [hb] at h1
    have e : runS m 51 n c.toNat = none := by
      refine runS_none fun j hj => ?_
      cases hx : isRun m 51 n c.toNat j with
      | false => rfl
      | true =>
        obtain ⟨j1, j2, j3⟩ := (isRun_iff ..).1 hx
        have ge := rowAt_ge m 51 (j - 51) c.toNat fun q q1 q2 => j3 (51 + q) (by omega) (by omega)
        have lt := rowAt_lt m 51 c.toNat (by omega) (j - 51 + c.toNat) fun q hq hcc => h1 q (by omega) (by rw [hcc]; omega)
        omega
    rw [h2, e]

/-- The longest row, and where it begins. -/
theorem Longest_run (m : Blk) (n : Nat) (hl : m.length = 128) (hn : n ≤ 400) : ∃ a b : Nat, marks_Longest (m, (n : Int)) = some ((a : Int), (b : Int)) ∧ (b = 0 → a = 0) ∧ (0 < b → runS m 0 n b = some a) ∧ ∀ c, b < c → runS m 0 n c = none := by
  have key : ∀ (d k a b : Nat), k + d = n → (b = 0 → a = 0) → (0 < b → a + b ≤ k ∧ rowAt m 0 (a + b) = b ∧ ∀ e, e < a + b → rowAt m 0 e < b) → (∀ e, e ≤ k → rowAt m 0 e ≤ b) →
      ∃ a' b' : Nat, loopO marks_Longest.l1 (m, (a : Int), (b : Int), ((rowAt m 0 k : Nat) : Int), (n : Int), (k : Int)) = some ((a' : Int), (b' : Int)) ∧ (b' = 0 → a' = 0) ∧ (0 < b' → a' + b' ≤ n ∧ rowAt m 0 (a' + b') = b' ∧ ∀ e, e < a' + b' → rowAt m 0 e < b') ∧ (∀ e, e ≤ n → rowAt m 0 e ≤ b') := by
    intro d
    induction d with
    | zero =>
      intro k a b hk h1 h2 h3
      have : k = n := by omega
      subst this
      refine ⟨a, b, loopO_inr ?_, h1, h2, h3⟩
      unfold marks_Longest.l1
      simp only
      rw [if_neg (by simp)]
    | succ d ih =>
      intro k a b hk h1 h2 h3
      have hr := rowAt_le m 0 k
      have hr1 := rowAt_le m 0 (k + 1)
      have hstep : marks_Longest.l1 (m, (a : Int), (b : Int), ((rowAt m 0 k : Nat) : Int), (n : Int), (k : Int)) = some (.inl (m, (((if rowAt m 0 (k + 1) > b then k + 1 - rowAt m 0 (k + 1) else a : Nat)) : Int), (((if rowAt m 0 (k + 1) > b then rowAt m 0 (k + 1) else b : Nat)) : Int), ((rowAt m 0 (k + 1) : Nat) : Int), (n : Int), ((k + 1 : Nat) : Int))) := by
        unfold marks_Longest.l1
        simp only
        rw [if_pos (by rw [decide_eq_true_eq]; omega), Is_is _ _ (by omega), Option.bind_some]
        have hrow : ((if isM m (k : Int) = true then some (m, (a : Int), (b : Int), (0 : Int), (k : Int), (n : Int), (k : Int)) else some (m, (a : Int), (b : Int), IntKind.i64.wrap (((rowAt m 0 k : Nat) : Int) + 1), (k : Int), (n : Int), (k : Int))) : Option (Blk × Int × Int × Int × Int × Int × Int)) = some (m, (a : Int), (b : Int), ((rowAt m 0 (k + 1) : Nat) : Int), (k : Int), (n : Int), (k : Int)) := by
          simp only [rowAt, Nat.zero_add]
          split
          · rfl
          · rw [wrap_succ (by omega)]
        rw [hrow, Option.bind_some]
        simp only
        rw [wrap_succ (n := k) (by omega)]
        by_cases hb : rowAt m 0 (k + 1) > b
        · rw [if_pos (by rw [decide_eq_true_eq]; omega), if_pos hb, if_pos hb, wrap64 (n := ((k + 1 : Nat) : Int) - ((rowAt m 0 (k + 1) : Nat) : Int)) (by omega) (by omega), show ((k + 1 : Nat) : Int) - ((rowAt m 0 (k + 1) : Nat) : Int) = ((k + 1 - rowAt m 0 (k + 1) : Nat) : Int) by omega]
        · rw [if_neg (by rw [decide_eq_true_eq]; omega), if_neg hb, if_neg hb]
      rw [loopO_inl hstep]
      refine ih (k + 1) _ _ (by omega) (fun h => ?_) (fun h => ?_) (fun e he => ?_)
      · by_cases hb : rowAt m 0 (k + 1) > b
        · rw [if_pos hb] at h; omega
        · rw [if_neg hb] at h ⊢; exact h1 h
      · by_cases hb : rowAt m 0 (k + 1) > b
        · rw [if_pos hb, if_pos hb, show k + 1 - rowAt m 0 (k + 1) + rowAt m 0 (k + 1) = k + 1 by omega]
          exact ⟨Nat.le_refl _, rfl, fun e he => by have := h3 e (by omega); omega⟩
        · rw [if_neg hb] at h ⊢
          rw [if_neg hb]
          have := h2 h
          exact ⟨by omega, this.2⟩
      · by_cases hb : rowAt m 0 (k + 1) > b
        · rw [if_pos hb]
          by_cases e1 : e = k + 1
          · rw [e1]; exact Nat.le_refl _
          · have := h3 e (by omega); omega
        · rw [if_neg hb]
          by_cases e1 : e = k + 1
          · rw [e1]; omega
          · exact h3 e (by omega)
  obtain ⟨a, b, h0, h1, h2, h3⟩ := key n 0 0 0 (by omega) (fun _ => rfl) (fun h => by omega) (fun e he => by
    have : e = 0 := by omega
    subst this
    exact Nat.le_refl _)
  refine ⟨a, b, ?_, h1, fun hb => ?_, fun c hc => ?_⟩
  · unfold marks_Longest
    simp only
    rw [hl, show IntKind.i64.wrap (8 * ((128 : Nat) : Int)) = 1024 by decide, if_neg (show ¬ (0 : Int) > (n : Int) by omega), if_neg (show ¬ (1024 : Int) < (n : Int) by omega)]
    have e0 : (m, (0 : Int), (0 : Int), (0 : Int), (n : Int), (0 : Int)) = (m, ((0 : Nat) : Int), ((0 : Nat) : Int), ((rowAt m 0 0 : Nat) : Int), (n : Int), ((0 : Nat) : Int)) := rfl
    rw [e0, h0]
    rfl
  · obtain ⟨q1, q2, q3⟩ := h2 hb
    refine runS_some (by omega) ((isRun_iff ..).2 ⟨by omega, q1, fun q r1 r2 => ?_⟩) (fun j hj => ?_)
    · have := rowAt_free m 0 (a + b) q (by omega) r2
      rwa [Nat.zero_add] at this
    · cases hx : isRun m 0 n b j with
      | false => rfl
      | true =>
        obtain ⟨j1, j2, j3⟩ := (isRun_iff ..).1 hx
        have ge := rowAt_ge m 0 j b fun q r1 r2 => by rw [Nat.zero_add]; exact j3 q r1 r2
        have := q3 (j + b) (by omega)
        omega
  · refine runS_none fun j hj => ?_
    cases hx : isRun m 0 n c j with
    | false => rfl
    | true =>
      obtain ⟨j1, j2, j3⟩ := (isRun_iff ..).1 hx
      have ge := rowAt_ge m 0 j c fun q r1 r2 => by rw [Nat.zero_add]; exact j3 q r1 r2
      have := h3 (j + c) (by omega)
      omega

/-! ### The first blocks are no files' -/

def lowM (m : Blk) : Blk := taken m 0 51
theorem low_len (m : Blk) : (lowM m).length = m.length := taken_len m 0 51
theorem low_is (m : Blk) (hl : m.length = 128) (q : Int) : isM (lowM m) q = if 0 ≤ q ∧ q < 51 then true else isM m q := by
  have := taken_is m 0 51 (by omega) q
  unfold lowM
  rw [this]
  rfl
theorem stockLow_is (m : Blk) (hl : m.length = 128) : stock_low m = some (lowM m) := by
  have := loop_run (f := stock_low.l1) (fun i => (taken m 0 i, (i : Int))) (n := 51) (r := lowM m) (fun i hi => by
    unfold stock_low.l1
    simp only
    rw [if_pos (by rw [decide_eq_true_eq]; omega), Set_is _ _ _ (by rw [taken_len]; omega), Option.bind_some, wrap_succ (by omega), taken, Nat.zero_add]) (by
    unfold stock_low.l1
    simp only
    rw [if_neg (by decide)]
    rfl)
  unfold stock_low
  rw [show (m, (0 : Int)) = (taken m 0 0, ((0 : Nat) : Int)) from rfl, this]
  rfl
theorem low_run (m : Blk) (hl : m.length = 128) (n c : Nat) (hc : 1 ≤ c) : runS (lowM m) 0 n c = runS m 51 n c := by
  have : isRun (lowM m) 0 n c = isRun m 51 n c := by
    funext i
    rw [Bool.eq_iff_iff, isRun_iff, isRun_iff]
    constructor
    · rintro ⟨h1, h2, h3⟩
      have hi : 51 ≤ i := by
        have := h3 i (Nat.le_refl _) (by omega)
        rw [low_is m hl] at this
        by_cases q : i < 51
        · rw [if_pos (by omega)] at this; cases this
        · omega
      refine ⟨hi, h2, fun q q1 q2 => ?_⟩
      have := h3 q q1 q2
      rw [low_is m hl, if_neg (by omega)] at this
      exact this
    · rintro ⟨h1, h2, h3⟩
      refine ⟨by omega, h2, fun q q1 q2 => ?_⟩
      rw [low_is m hl, if_neg (by omega)]
      exact h3 q q1 q2
  unfold runS
  rw [this]

theorem run_down {m : Blk} {s B c d : Nat} (hd : 1 ≤ d) (h : d ≤ c) (hc : runS m s B c ≠ none) : runS m s B d ≠ none := by
  rcases runS_spec m s B c with ⟨i, h1, h2, h3, h4⟩ | ⟨h1, h2⟩
  · obtain ⟨j1, j2, j3⟩ := (isRun_iff ..).1 h3
    rcases runS_spec m s B d with ⟨k, k1, _⟩ | ⟨k1, k2⟩
    · rw [k1]; simp
    · have := k2 i (by omega)
      rw [(isRun_iff ..).2 ⟨j1, by omega, fun q q1 q2 => j3 q q1 (by omega)⟩] at this
      cases this
  · exact absurd h1 hc

/-- How long the longest row is. -/
structure IsBest (m : Blk) (n b : Nat) : Prop where
  some : 0 < b → runS m 51 n b ≠ none
  none : ∀ c, b < c → runS m 51 n c = none
theorem IsBest.le {m : Blk} {n b : Nat} (h : IsBest m n b) : b ≤ n := by
  by_cases hb : 0 < b
  · rcases runS_spec m 51 n b with ⟨i, h1, h2, h3, h4⟩ | ⟨h1, h2⟩
    · obtain ⟨j1, j2, j3⟩ := (isRun_iff ..).1 h3
      omega
    · exact absurd h1 (h.some hb)
  · omega

def atS (m : Blk) (n k : Nat) : Nat := if k = 0 then 0 else (runS m 51 n k).getD 0

/-- A row: where, and how long. -/
def rowS (m : Blk) (n : Nat) (b : Nat) (c : Int) : Nat × Nat := match runS m 51 n c.toNat with | some i => (i, c.toNat) | none => (atS m n b, b)

theorem best_of (m : Blk) (n : Nat) (hl : m.length = 128) (hn : n ≤ 400) : ∃ b, IsBest m n b ∧ marks_Longest (lowM m, (n : Int)) = some ((atS m n b : Int), (b : Int)) := by
  obtain ⟨a, b, h0, h1, h2, h3⟩ := Longest_run (lowM m) n (by rw [low_len, hl]) hn
  refine ⟨b, ⟨fun hb => ?_, fun c hc => ?_⟩, ?_⟩
  · rw [← low_run m hl n b hb, h2 hb]; simp
  · rw [← low_run m hl n c (by omega)]; exact h3 c hc
  · rw [h0]
    congr 2
    unfold atS
    by_cases hb : b = 0
    · rw [if_pos hb, h1 hb]
    · rw [if_neg hb, ← low_run m hl n b (by omega), h2 (by omega)]
      rfl

def cntF (f : Nat → Bool) : Nat → Nat
  | 0 => 0
  | n + 1 => cntF f n + (f n).toNat
theorem cnt_F (m : Blk) : ∀ L, cnt m L = cntF (fun q => isM m (q : Int)) L
  | 0 => rfl
  | L + 1 => by rw [cnt, cntF, cnt_F m L]
theorem cntF_congr {f g : Nat → Bool} : ∀ L, (∀ q, q < L → f q = g q) → cntF f L = cntF g L
  | 0, _ => rfl
  | L + 1, h => by rw [cntF, cntF, cntF_congr L (fun q hq => h q (by omega)), h L (by omega)]
theorem cntF_set {f g : Nat → Bool} {a k : Nat} (hg : ∀ q, g q = if a ≤ q ∧ q < a + k then true else f q) (hf : ∀ q, a ≤ q → q < a + k → f q = false) : ∀ L, cntF g L = cntF f L + (if L ≤ a then 0 else if L ≤ a + k then L - a else k)
  | 0 => by simp [cntF]
  | L + 1 => by
    rw [cntF, cntF, cntF_set hg hf L, hg]
    by_cases h : a ≤ L ∧ L < a + k
    · rw [if_pos h, hf L h.1 h.2]
      have e1 : true.toNat = 1 := rfl
      have e2 : false.toNat = 0 := rfl
      rw [e1, e2]
      split <;> split <;> (try split) <;> (try split) <;> omega
    · rw [if_neg h]
      split <;> split <;> (try split) <;> (try split) <;> omega
theorem cntF_clear {f g : Nat → Bool} {a : Nat} (hg : ∀ q, g q = if q = a then false else f q) (hf : f a = true) : ∀ L, cntF g L + (if L ≤ a then 0 else 1) = cntF f L
  | 0 => by simp [cntF]
  | L + 1 => by
    have ih := cntF_clear hg hf L
    rw [cntF, cntF, hg]
    by_cases h : L = a
    · rw [if_pos h, h, hf]
      rw [h] at ih
      have e1 : true.toNat = 1 := rfl
      have e2 : false.toNat = 0 := rfl
      rw [if_neg (by omega), e1, e2]
      rw [if_pos (by omega)] at ih
      omega
    · rw [if_neg h]
      split at ih <;> split <;> omega
theorem cntF_all {f : Nat → Bool} : ∀ L, (∀ q, q < L → f q = true) → cntF f L = L
  | 0, _ => rfl
  | L + 1, h => by rw [cntF, cntF_all L (fun q hq => h q (by omega)), h L (by omega)]; rfl

def usedF (m : Blk) (q : Nat) : Bool := decide (q < 51) || isM m (q : Int)
theorem cnt_low (m : Blk) (hl : m.length = 128) (n : Nat) : cnt (lowM m) n = cntF (usedF m) n := by
  rw [cnt_F]
  refine cntF_congr n fun q _ => ?_
  unfold usedF
  rw [low_is m hl]
  by_cases h : q < 51
  · rw [if_pos (by omega), decide_eq_true h]; rfl
  · rw [if_neg (by omega), decide_eq_false h]; rfl

def marksU (n : Nat) : Nat → Blk
  | 0 => zeroS
  | i + 1 => if i < 51 ∨ n ≤ i then setM (marksU n i) (i : Int) true else marksU n i

theorem marksU_len (n : Nat) : ∀ i, (marksU n i).length = 128
  | 0 => zero_len
  | i + 1 => by
    rw [marksU]
    split
    · rw [setM_len, marksU_len n i]
    · exact marksU_len n i

theorem zero_free : ((List.range 1024).all fun i => !isM zeroS (i : Int)) = true := by kernel_rfl

theorem marksU_is (n : Nat) : ∀ i, i ≤ 1024 → ∀ q : Nat, q < 1024 → isM (marksU n i) (q : Int) = decide (q < i ∧ (q < 51 ∨ n ≤ q))
  | 0, _, q, hq => by
    have := List.all_eq_true.1 zero_free q (List.mem_range.2 hq)
    rw [decide_eq_false (by omega), show marksU n 0 = zeroS from rfl]
    simpa using this
  | i + 1, hi, q, hq => by
    have ih := marksU_is n i (by omega) q hq
    have hl := marksU_len n i
    rw [marksU]
    by_cases h : i < 51 ∨ n ≤ i
    · rw [if_pos h, isM_set _ _ _ _ (by rw [hl]; omega), ih]
      by_cases e : (q : Int) = (i : Int)
      · rw [if_pos e, decide_eq_true (by omega)]
      · rw [if_neg e]
        exact decide_eq_decide.2 (by omega)
    · rw [if_neg h, ih]
      exact decide_eq_decide.2 (by omega)

def marksB (n : Nat) : Blk := marksU n 1024

theorem marks_is (n : Nat) : rf10_Marks (n : Int) = some (marksB n) := by
  have := loop_run (f := rf10_Marks.l1) (fun i => ((n : Int), marksU n i, (i : Int))) (n := 1024) (r := marksB n) (fun i hi => by
    have hl := marksU_len n i
    unfold rf10_Marks.l1
    simp only
    rw [if_pos (by rw [decide_eq_true_eq]; omega)]
    by_cases h1 : i < 51
    · rw [if_neg (by simp; omega), Option.bind_some]
      simp only
      rw [if_pos trivial, refSet_is _ _ _ (by omega), Option.bind_some, wrap_succ (by omega), marksU, if_pos (.inl h1)]
    · rw [if_pos (decide_eq_false (by omega)), Option.bind_some]
      simp only
      by_cases h2 : n ≤ i
      · rw [if_pos (by rw [decide_eq_true_eq]; omega), refSet_is _ _ _ (by omega), Option.bind_some, wrap_succ (by omega), marksU, if_pos (.inr h2)]
      · rw [if_neg (by rw [decide_eq_true_eq]; omega), wrap_succ (by omega), marksU, if_neg (by omega)]) (by
    unfold rf10_Marks.l1
    simp only
    rw [if_neg (by decide)]
    rfl)
  unfold rf10_Marks
  rw [refWhole_is, Option.bind_some, whole_nil, show ((n : Int), zeroS, (0 : Int)) = ((n : Int), marksU n 0, ((0 : Nat) : Int)) from rfl, this]
  rfl

end Go.Proofs.YtlbammfnkphajaaGreatDoor.Abs
