/- Marks: what the functions compute; runs of free bits. -/
import Derived.Test.YtiodpeekbeahlaaGreatDoorStpT
namespace Go.Proofs.YtiodpeekbeahlaaGreatDoor.Abs
open Go
set_option linter.unusedVariables false
attribute [-simp] List.getD_eq_getElem?_getD

def byteAt (m : List UInt8) (i : Nat) : Nat := (m.getD i 0).toNat

theorem byteAt_lt (m : List UInt8) (i : Nat) : byteAt m i < 256 := (m.getD i 0).toNat_lt

/-- Whether block i is taken. -/

def isM (m : List UInt8) (i : Int) : Bool := if 0 ≤ i ∧ i < 8 * (m.length : Int) then (byteAt m (i.toNat / 8)).testBit (i.toNat % 8) else true

theorem there_is (m : List UInt8) (i : Int) (h : m.length ≤ 1048576) : marks_there (m, i) = some (decide (0 ≤ i ∧ i < 8 * (m.length : Int))) := by
  unfold marks_there
  dsimp only
  rw [wrap64 (n := 8 * (m.length : Int)) (by omega) (by omega)]
  by_cases h0 : 0 ≤ i
  · rw [if_pos (by simpa using h0)]; simp [h0]
  · rw [if_neg (by simpa using h0)]; simp [h0]

theorem bit_is : ∀ b : Fin 256, ∀ r : Fin 8, (bitsOp .and .u8 (Int.fdiv ((b.val : Nat) : Int) (2 ^ (min r.val 8))) 1 == 1) = b.val.testBit r.val := by decide +kernel

theorem divmod (m : List UInt8) (i : Int) (h0 : 0 ≤ i) (h1 : i < 8 * (m.length : Int)) (h : m.length ≤ 1048576) :
    IntKind.i64.wrap (Int.tdiv i 8) = ((i.toNat / 8 : Nat) : Int) ∧ Int.tmod i 8 = ((i.toNat % 8 : Nat) : Int) ∧ i.toNat / 8 < m.length := by
  obtain ⟨n, rfl⟩ : ∃ n : Nat, i = (n : Int) := ⟨i.toNat, by omega⟩
  refine ⟨?_, ?_, by simp; omega⟩
  · rw [wrap64] <;> simp [Int.tdiv_eq_ediv_of_nonneg] <;> omega
  · rw [Int.tmod_eq_emod_of_nonneg (by omega)]; simp

theorem Is_is (m : List UInt8) (i : Int) (h : m.length ≤ 1048576) : marks_Is (m, i) = some (isM m i) := by
  unfold marks_Is isM
  dsimp only
  rw [there_is m i h]
  simp only [Option.bind_some]
  by_cases hc : 0 ≤ i ∧ i < 8 * (m.length : Int)
  · obtain ⟨e1, e2, e3⟩ := divmod m i hc.1 hc.2 h
    rw [if_pos (by simp [hc]), e1, e2, if_pos (by omega), if_pos (by omega), if_pos hc]
    simp only [Int.toNat_natCast]
    have := bit_is ⟨byteAt m (i.toNat / 8), byteAt_lt _ _⟩ ⟨i.toNat % 8, by omega⟩
    rw [← this]; rfl
  · rw [if_neg (by simp; omega), if_neg hc]

theorem bit2_is : ∀ b : Fin 256, ∀ r : Fin 8, (Int.tmod ((b.val / 2 ^ r.val : Nat) : Int) 2 == 1) = b.val.testBit r.val := by decide +kernel

theorem refIs_is (m : List UInt8) (i : Int) (h : m.length ≤ 1048576) : wainwrightref03_Is (m, i) = some (isM m i) := by
  unfold wainwrightref03_Is isM
  dsimp only
  rw [wrap64 (n := 8 * (m.length : Int)) (by omega) (by omega)]
  by_cases h0 : 0 ≤ i
  · rw [if_pos (by simpa using h0)]
    by_cases h1 : i < 8 * (m.length : Int)
    · obtain ⟨e1, e2, e3⟩ := divmod m i h0 h1 h
      rw [if_neg (by simpa using h1), e1, if_pos (by omega), if_pos ⟨h0, h1⟩]
      simp only [Int.toNat_natCast]
      have hb := byteAt_lt m (i.toNat / 8)
      rw [show ((m.getD (i.toNat / 8) 0).toNat : Int) = ((byteAt m (i.toNat / 8) : Nat) : Int) from rfl, wrap_nat (by omega)]
      generalize byteAt m (i.toNat / 8) = b at hb ⊢
      have hr : i.toNat % 8 < 8 := by omega
      generalize hrr : i.toNat % 8 = r at hr e2 ⊢
      have := loop_run (f := wainwrightref03_Is.l1) (fun k => (i, ((b / 2 ^ k : Nat) : Int), (k : Int))) (n := r) (r := ((b / 2 ^ r : Nat) : Int)) (fun k hk => by
        unfold wainwrightref03_Is.l1
        dsimp only
        rw [e2, if_pos (by simpa using hk), wrap_succ (by omega)]
        have : b / 2 ^ k < 256 := Nat.lt_of_le_of_lt (Nat.div_le_self _ _) hb
        have e : Int.tdiv ((b / 2 ^ k : Nat) : Int) 2 = ((b / 2 ^ (k + 1) : Nat) : Int) := by
          rw [Int.tdiv_eq_ediv_of_nonneg (Int.natCast_nonneg _), Nat.pow_succ, ← Nat.div_div_eq_div_mul]
          simp
        rw [e, wrap_nat]
        have : b / 2 ^ (k + 1) ≤ b := Nat.div_le_self _ _
        omega) (by
        unfold wainwrightref03_Is.l1
        dsimp only
        rw [e2, if_neg (by simp)])
      rw [show (((b : Nat) : Int)) = ((b / 2 ^ 0 : Nat) : Int) by simp, show (0 : Int) = ((0 : Nat) : Int) from rfl, this]
      simp only [Option.bind_some]
      exact congrArg some (bit2_is ⟨b, hb⟩ ⟨r, hr⟩)
    · rw [if_pos (by simpa using h1), if_neg (by omega)]
  · rw [if_neg (by simpa using h0), if_neg (by omega)]

def flipB (b r : Nat) : UInt8 := UInt8.ofNat (b ^^^ 2 ^ r)

def setM (m : List UInt8) (i : Int) (yes : Bool) : List UInt8 :=
  if 0 ≤ i ∧ i < 8 * (m.length : Int) then (if isM m i = yes then m else m.set (i.toNat / 8) (flipB (byteAt m (i.toNat / 8)) (i.toNat % 8))) else m

theorem flip_is : ∀ b : Fin 256, ∀ r : Fin 8, UInt8.ofNat (bitsOp .xor .u8 (b.val : Int) (IntKind.u8.wrap (1 * 2 ^ (min r.val 8)))).toNat = flipB b.val r.val := by decide +kernel

theorem map_back (m : List UInt8) : (m.map fun b => (b.toNat : Int)).map (fun (n : Int) => UInt8.ofNat n.toNat) = m := by
  rw [List.map_map]
  conv => rhs; rw [← List.map_id m]
  exact List.map_congr_left fun b _ => by simp

theorem map_getD (m : List UInt8) (i : Nat) : (m.map fun b => (b.toNat : Int)).getD i 0 = (byteAt m i : Int) := by
  unfold byteAt
  by_cases h : i < m.length
  · simp [List.getD, h]
  · simp [List.getD, h]

theorem setBit_same (m : List UInt8) (i : Nat) (r : Nat) (hr : r < 8) : ((m.map fun b => (b.toNat : Int)).set i (bitsOp .xor .u8 ((m.map fun b => (b.toNat : Int)).getD i 0) (IntKind.u8.wrap (1 * 2 ^ (min r 8))))).map (fun (n : Int) => UInt8.ofNat n.toNat) = m.set i (flipB (byteAt m i) r) := by
  rw [List.map_set, map_back, map_getD]
  have := flip_is ⟨byteAt m i, byteAt_lt _ _⟩ ⟨r, hr⟩
  dsimp only at this
  rw [this]

theorem Set_is (m : List UInt8) (i : Int) (yes : Bool) (h : m.length ≤ 1048576) : marks_Set (m, i, yes) = some (setM m i yes) := by
  unfold marks_Set setM
  dsimp only
  rw [there_is m i h, Is_is m i h]
  simp only [Option.bind_some]
  by_cases hc : 0 ≤ i ∧ i < 8 * (m.length : Int)
  · obtain ⟨e1, e2, e3⟩ := divmod m i hc.1 hc.2 h
    rw [if_pos (by simp [hc]), if_pos hc]
    by_cases hy : isM m i = yes
    · rw [if_pos (by simpa using hy), if_pos hy]
    · rw [if_neg (by simpa using hy), if_neg hy, e1, e2, List.length_map, if_pos (by omega), if_pos (by omega), if_pos (by omega)]
      simp only [Int.toNat_natCast]
      rw [setBit_same m _ _ (by omega)]
  · rw [if_neg (by simp; omega), if_neg hc]

theorem refSet_is (m : List UInt8) (i : Int) (yes : Bool) (h : m.length ≤ 1048576) : wainwrightref03_Set (m, i, yes) = some (setM m i yes) := by
  unfold wainwrightref03_Set setM
  dsimp only
  rw [refIs_is m i h, wrap64 (n := 8 * (m.length : Int)) (by omega) (by omega)]
  simp only [Option.bind_some]
  by_cases hc : 0 ≤ i ∧ i < 8 * (m.length : Int)
  · obtain ⟨e1, e2, e3⟩ := divmod m i hc.1 hc.2 h
    rw [if_pos (by simp; omega), if_pos (by simp; omega), if_pos hc]
    by_cases hy : isM m i = yes
    · rw [if_pos (by simpa using hy), if_pos hy]
    · rw [if_neg (by simpa using hy), if_neg hy, e1, e2, List.length_map, wrapu64 (by omega) (by omega), if_pos (by omega), if_pos (by omega), if_pos (by omega)]
      simp only [Int.toNat_natCast]
      rw [setBit_same m _ _ (by omega)]
  · rw [if_neg hc]
    by_cases h0 : 0 ≤ i
    · rw [if_pos (by simp; omega), if_neg (by simp; omega)]
    · rw [if_neg (by simp; omega)]

/-! ### How many -/

def cnt (m : List UInt8) : Nat → Nat
  | 0 => 0
  | n + 1 => cnt m n + (isM m n).toNat

theorem cnt_le (m : List UInt8) : ∀ n, cnt m n ≤ n
  | 0 => Nat.le_refl _
  | n + 1 => by
    have := cnt_le m n
    have h2 := Bool.toNat_le (isM m n)
    rw [cnt]; omega

def lim (n : Int) : Nat := (if 100000 < (if 0 > n then 0 else n) then 100000 else (if 0 > n then 0 else n)).toNat

theorem lim_is (n : Int) : (if 100000 < (if 0 > n then 0 else n) then 100000 else (if 0 > n then 0 else n)) = ((lim n : Nat) : Int) ∧ lim n ≤ 100000 ∧ (n < 0 → lim n = 0) ∧ (0 ≤ n → n ≤ 100000 → (lim n : Int) = n) ∧ (100000 < n → lim n = 100000) := by
  unfold lim
  split <;> split at * <;> omega

/-- How many bits of a byte are 1, up to bit r. -/

def pop (b : Nat) : Nat → Nat
  | 0 => 0
  | r + 1 => pop b r + (b.testBit r).toNat

theorem ones_is : ∀ b : Fin 256, bits_OnesCount8 (b.val : Int) = some ((pop b.val 8 : Nat) : Int) := by decide +kernel

theorem mask_is : ∀ b : Fin 256, ∀ r : Fin 8, bits_OnesCount8 (bitsOp .and .u8 (b.val : Int) (IntKind.u8.wrap ((IntKind.u8.wrap (1 * 2 ^ (min r.val 8))) - 1))) = some ((pop b.val r.val : Nat) : Int) := by decide +kernel

theorem cnt_byte (m : List UInt8) (k : Nat) (hk : k < m.length) : ∀ r, r ≤ 8 → cnt m (8 * k + r) = cnt m (8 * k) + pop (byteAt m k) r
  | 0, _ => by simp [pop]
  | r + 1, hr => by
    rw [← Nat.add_assoc, cnt, cnt_byte m k hk r (by omega), pop]
    have : isM m ((8 * k + r : Nat) : Int) = (byteAt m k).testBit r := by
      unfold isM
      rw [if_pos (by omega), Int.toNat_natCast, show (8 * k + r) / 8 = k by omega, show (8 * k + r) % 8 = r by omega]
    rw [this]; omega

theorem cnt_out (m : List UInt8) (a : Nat) (ha : 8 * m.length ≤ a) : ∀ d, cnt m (a + d) = cnt m a + d
  | 0 => rfl
  | d + 1 => by
    rw [← Nat.add_assoc, cnt, cnt_out m a ha d]
    have : isM m ((a + d : Nat) : Int) = true := by
      unfold isM
      rw [if_neg (by omega)]
    rw [this]; rfl

theorem Count_is (m : List UInt8) (n : Int) (h : m.length ≤ 1048576) : marks_Count (m, n) = some ((cnt m (lim n) : Nat) : Int) := by
  obtain ⟨q0, q1, _⟩ := lim_is n
  unfold marks_Count
  dsimp only
  rw [q0]
  generalize lim n = L at q1
  have e1 : IntKind.i64.wrap (Int.tdiv (L : Int) 8) = ((L / 8 : Nat) : Int) := by
    rw [Int.tdiv_eq_ediv_of_nonneg (by omega), wrap64] <;> omega
  rw [e1, wrap64 (n := 8 * (m.length : Int)) (by omega) (by omega), wrap64 (n := (L : Int) - 8 * (m.length : Int)) (by omega) (by omega)]
  obtain ⟨W, hW, hW1, hW2⟩ : ∃ W : Nat, (if (m.length : Int) < ((L / 8 : Nat) : Int) then (m.length : Int) else ((L / 8 : Nat) : Int)) = (W : Int) ∧ W ≤ m.length ∧ (W = L / 8 ∨ (W = m.length ∧ W < L / 8)) := by
    by_cases hh : m.length < L / 8
    · exact ⟨m.length, by rw [if_pos (by omega)], by omega, .inr ⟨rfl, hh⟩⟩
    · exact ⟨L / 8, by rw [if_neg (by omega)], by omega, .inl rfl⟩
  rw [hW, if_pos (by omega)]
  obtain ⟨X, hX, hX2⟩ : ∃ X : Nat, (if 0 > (L : Int) - 8 * (m.length : Int) then 0 else (L : Int) - 8 * (m.length : Int)) = (X : Int) ∧ X = L - 8 * m.length := ⟨L - 8 * m.length, by split <;> omega, rfl⟩
  rw [hX]
  simp only [Int.toNat_natCast]
  have hlen : ((m.take W).map fun b => (b.toNat : Int)).length = W := by simp; omega
  rw [hlen]
  have hc : ∀ k, cnt m (8 * k) ≤ 8 * k := fun k => cnt_le m _
  have := loop_run (f := marks_Count.l1) (fun k => (m, (L : Int), (W : Int), ((X + cnt m (8 * k) : Nat) : Int), (m.take W).map (fun b => (b.toNat : Int)), (W : Int), (k : Int))) (n := W) (r := (m, (L : Int), (W : Int), ((X + cnt m (8 * W) : Nat) : Int))) (fun k hk => by
    have h1 := hc k
    unfold marks_Count.l1
    dsimp only
    rw [if_pos (by simp; omega), hlen, if_pos (by omega)]
    have e2 : ((m.take W).map fun b => (b.toNat : Int)).getD ((k : Int)).toNat 0 = ((byteAt m k : Nat) : Int) := by
      rw [Int.toNat_natCast]
      simp [byteAt, List.getD, List.getElem?_take, hk, show k < m.length by omega]
    rw [e2, ones_is ⟨byteAt m k, byteAt_lt _ _⟩]
    simp only [Option.bind_some]
    have e3 := cnt_byte m k (by omega) 8 (Nat.le_refl _)
    have e4 := hc (k + 1)
    rw [show 8 * (k + 1) = 8 * k + 8 by omega, e3] at e4 ⊢
    rw [wrap_succ (by omega)]
    rw [show (((X + cnt m (8 * k) : Nat) : Int) + ((pop (byteAt m k) 8 : Nat) : Int)) = ((X + cnt m (8 * k) + pop (byteAt m k) 8 : Nat) : Int) by omega, wrap_nat (by omega), Nat.add_assoc]) (by
    unfold marks_Count.l1
    dsimp only
    rw [if_neg (by simp)])
  rw [show ((X : Nat) : Int) = ((X + cnt m (8 * 0) : Nat) : Int) by simp [cnt], show (0 : Int) = ((0 : Nat) : Int) from rfl, this]
  simp only [Option.bind_some]
  have h1 := hc W
  have e5 : IntKind.i64.wrap ((L : Int) - IntKind.i64.wrap (8 * (W : Int))) = (L : Int) - 8 * (W : Int) := by
    rw [wrap64 (n := 8 * (W : Int)) (by omega) (by omega), wrap64 (by omega) (by omega)]
  rw [e5]
  by_cases hWm : W < m.length
  · rw [if_pos (by simp; omega)]
    simp only [Option.bind_some]
    have hWL : W = L / 8 := by omega
    have hX0 : X = 0 := by omega
    by_cases hr : 0 < L % 8
    · rw [if_pos (by simp; omega), if_pos (by omega), if_pos (by omega)]
      have e6 : (L : Int) - 8 * (W : Int) = ((L % 8 : Nat) : Int) := by omega
      rw [e6, Int.toNat_natCast, Int.toNat_natCast]
      have := mask_is ⟨byteAt m W, byteAt_lt _ _⟩ ⟨L % 8, by omega⟩
      dsimp only at this
      rw [show (((m.getD W 0).toNat : Nat) : Int) = ((byteAt m W : Nat) : Int) from rfl, this]
      simp only [Option.bind_some]
      have e7 := cnt_byte m W hWm (L % 8) (by omega)
      have e8 := cnt_le m (8 * W + L % 8)
      rw [show (((X + cnt m (8 * W) : Nat) : Int) + ((pop (byteAt m W) (L % 8) : Nat) : Int)) = ((X + cnt m (8 * W) + pop (byteAt m W) (L % 8) : Nat) : Int) by omega, wrap_nat (by omega)]
      have hL : cnt m L = cnt m (8 * W) + pop (byteAt m W) (L % 8) := by
        rw [← e7, show 8 * W + L % 8 = L by omega]
      rw [hL, hX0]
      exact congrArg some (by omega)
    · rw [if_neg (by simp; omega)]
      have : L = 8 * W := by omega
      rw [this, hX0]; simp
  · rw [if_neg (by simp; omega)]
    simp only [Option.bind_some, Bool.false_eq_true, if_false]
    have hWe : W = m.length := by omega
    have := cnt_out m (8 * m.length) (Nat.le_refl _) (L - 8 * m.length)
    rw [show 8 * m.length + (L - 8 * m.length) = L by omega] at this
    rw [this, hX2, hWe]
    congr 1
    omega

/-! ### The laws -/

theorem setM_len (m : List UInt8) (i : Int) (y : Bool) : (setM m i y).length = m.length := by
  unfold setM
  split
  · split <;> simp
  · rfl

theorem flip_bit : ∀ b : Fin 256, ∀ r : Fin 8, ∀ q : Fin 8, (flipB b.val r.val).toNat.testBit q.val = if q = r then !b.val.testBit q.val else b.val.testBit q.val := by decide +kernel

theorem flip_flip : ∀ b : Fin 256, ∀ r : Fin 8, flipB (flipB b.val r.val).toNat r.val = UInt8.ofNat b.val := by decide +kernel

theorem byteAt_set (m : List UInt8) (i q : Nat) (v : UInt8) (hi : i < m.length) : byteAt (m.set i v) q = if q = i then v.toNat else byteAt m q := by
  unfold byteAt
  by_cases h : q = i
  · subst h; simp [List.getD, hi]
  · have h' : i ≠ q := fun e => h e.symm
    simp [List.getD, h, h']

/-- One bit is changed, the others stay. -/

theorem isM_set (m : List UInt8) (i q : Int) (y : Bool) (hi : 0 ≤ i ∧ i < 8 * (m.length : Int)) : isM (setM m i y) q = if q = i then y else isM m q := by
  have hl := setM_len m i y
  by_cases hy : isM m i = y
  · have : setM m i y = m := by unfold setM; rw [if_pos hi, if_pos hy]
    rw [this]
    split
    · rename_i e; rw [e, hy]
    · rfl
  · have hs : setM m i y = m.set (i.toNat / 8) (flipB (byteAt m (i.toNat / 8)) (i.toNat % 8)) := by unfold setM; rw [if_pos hi, if_neg hy]
    have hlt : i.toNat / 8 < m.length := by omega
    by_cases hq : 0 ≤ q ∧ q < 8 * (m.length : Int)
    · have e1 : isM (setM m i y) q = (byteAt (setM m i y) (q.toNat / 8)).testBit (q.toNat % 8) := by
        unfold isM; rw [hl, if_pos hq]
      have e2 : isM m q = (byteAt m (q.toNat / 8)).testBit (q.toNat % 8) := by unfold isM; rw [if_pos hq]
      have e3 : isM m i = (byteAt m (i.toNat / 8)).testBit (i.toNat % 8) := by unfold isM; rw [if_pos hi]
      rw [e1, hs, byteAt_set _ _ _ _ hlt]
      by_cases hb : q.toNat / 8 = i.toNat / 8
      · rw [if_pos hb]
        have := flip_bit ⟨byteAt m (i.toNat / 8), byteAt_lt _ _⟩ ⟨i.toNat % 8, by omega⟩ ⟨q.toNat % 8, by omega⟩
        simp only [Fin.mk.injEq] at this
        rw [this]
        by_cases hqi : q = i
        · subst hqi
          rw [if_pos rfl, if_pos rfl, ← e3]
          cases h1 : isM m q <;> cases y <;> simp_all
        · rw [if_neg (by omega), if_neg hqi, e2, hb]
      · rw [if_neg hb, if_neg (by intro e; subst e; exact hb rfl), e2]
    · rw [if_neg (by intro e; subst e; exact hq hi)]
      unfold isM
      rw [hl, if_neg hq, if_neg hq]

theorem setM_back (m : List UInt8) (i : Int) (y : Bool) (hi : 0 ≤ i ∧ i < 8 * (m.length : Int)) : setM (setM m i y) i (isM m i) = m := by
  have hl := setM_len m i y
  have h1 := isM_set m i i y hi
  rw [if_pos rfl] at h1
  by_cases hy : isM m i = y
  · have : setM m i y = m := by unfold setM; rw [if_pos hi, if_pos hy]
    rw [this]
    unfold setM; rw [if_pos hi, if_pos rfl]
  · have hs : setM m i y = m.set (i.toNat / 8) (flipB (byteAt m (i.toNat / 8)) (i.toNat % 8)) := by unfold setM; rw [if_pos hi, if_neg hy]
    have hlt : i.toNat / 8 < m.length := by omega
    have h2 : setM (setM m i y) i (isM m i) = (setM m i y).set (i.toNat / 8) (flipB (byteAt (setM m i y) (i.toNat / 8)) (i.toNat % 8)) := by
      generalize setM m i y = x at h1 hl ⊢
      unfold setM
      rw [hl, if_pos hi, if_neg (by rw [h1]; exact fun e => hy e.symm)]
    rw [h2, hs, byteAt_set _ _ _ _ hlt, if_pos rfl, List.set_set]
    have := flip_flip ⟨byteAt m (i.toNat / 8), byteAt_lt _ _⟩ ⟨i.toNat % 8, by omega⟩
    dsimp only at this
    rw [this]
    have e : UInt8.ofNat (byteAt m (i.toNat / 8)) = m[i.toNat / 8] := by simp [byteAt, List.getD, hlt]
    rw [e]; exact List.set_getElem_self hlt

def rowAt (m : List UInt8) (s : Nat) : Nat → Nat
  | 0 => 0
  | k + 1 => if isM m ((s + k : Nat) : Int) = true then 0 else rowAt m s k + 1

theorem rowAt_le (m : List UInt8) (s : Nat) : ∀ k, rowAt m s k ≤ k
  | 0 => Nat.le_refl _
  | k + 1 => by
    have := rowAt_le m s k
    simp only [rowAt]; split <;> omega

/-- The last so many are free. -/

theorem rowAt_free (m : List UInt8) (s : Nat) : ∀ k q, k - rowAt m s k ≤ q → q < k → isM m ((s + q : Nat) : Int) = false
  | 0, q, _, h => by omega
  | k + 1, q, h1, h2 => by
    simp only [rowAt] at h1
    have hr := rowAt_le m s k
    split at h1
    · omega
    · rename_i hc
      by_cases hq : q = k
      · subst hq; simpa using hc
      · exact rowAt_free m s k q (by omega) (by omega)

/-- Where so many are free, the row is as long. -/

theorem rowAt_ge (m : List UInt8) (s p : Nat) : ∀ d, (∀ q, p ≤ q → q < p + d → isM m ((s + q : Nat) : Int) = false) → d ≤ rowAt m s (p + d)
  | 0, _ => Nat.zero_le _
  | d + 1, h => by
    have ih := rowAt_ge m s p d fun q h1 h2 => h q h1 (by omega)
    have h0 := h (p + d) (by omega) (by omega)
    rw [← Nat.add_assoc, rowAt, h0]
    simp; omega

/-- A row that was never c is shorter than c. -/

theorem rowAt_lt (m : List UInt8) (s c : Nat) (hc : 0 < c) : ∀ k, (∀ j, j < k → rowAt m s (j + 1) ≠ c) → rowAt m s k < c
  | 0, _ => hc
  | k + 1, h => by
    have ih := rowAt_lt m s c hc k fun j hj => h j (by omega)
    have h0 := h k (by omega)
    simp only [rowAt] at h0 ⊢
    split
    · exact hc
    · rename_i hx
      rw [if_neg hx] at h0
      omega

def bound (m : List UInt8) (n : Int) : Int := if 8 * (m.length : Int) < n then 8 * (m.length : Int) else n

def start (a : Int) : Nat := (if 0 > a then 0 else a).toNat

theorem Run_is (m : List UInt8) (a b c : Int) (h : m.length ≤ 1048576) (hc : 1 ≤ c) (ha : a < 9223372036854775808) (hcb : c < 9223372036854775808) (hb : -9223372036854775808 ≤ b) :
    (∃ k : Nat, ((start a + k : Nat) : Int) < bound m b ∧ (rowAt m (start a) (k + 1) : Int) = c ∧ (∀ j, j < k → (rowAt m (start a) (j + 1) : Int) ≠ c) ∧ marks_Run (m, a, b, c) = some (((start a + k + 1 : Nat) : Int) - c, true)) ∨
    ((∀ k : Nat, ((start a + k : Nat) : Int) < bound m b → (rowAt m (start a) (k + 1) : Int) ≠ c) ∧ marks_Run (m, a, b, c) = some (0, false)) := by
  have hs : (if 0 > a then 0 else a) = ((start a : Nat) : Int) := by unfold start; split <;> omega
  have hB : bound m b ≤ 8388608 := by unfold bound; split <;> omega
  obtain ⟨j, _, hj, hbefore, hstop, hrun⟩ := loop_first (f := marks_Run.l1) (fun k => (m, bound m b, c, ((rowAt m (start a) k : Nat) : Int), ((start a + k : Nat) : Int))) (fun k => decide ((rowAt m (start a) (k + 1) : Int) = c)) (n := (bound m b - (start a : Int)).toNat)
    (r := fun k => if k < (bound m b - (start a : Int)).toNat then .inr (((start a + k + 1 : Nat) : Int) - c, true) else .inl ()) (bound m b - (start a : Int)).toNat 0 (by omega) (fun k _ hk => by
      have hr := rowAt_le m (start a) k
      unfold marks_Run.l1
      dsimp only
      rw [if_pos (by simp; omega), Is_is _ _ h]
      have key : ((((some (isM m ((start a + k : Nat) : Int))).bind fun r30 => if r30 = true then some (m, bound m b, c, (0 : Int), ((start a + k : Nat) : Int)) else some (m, bound m b, c, IntKind.i64.wrap (((rowAt m (start a) k : Nat) : Int) + 1), ((start a + k : Nat) : Int))) : Option (List UInt8 × Int × Int × Int × Int))
          = some (m, bound m b, c, ((rowAt m (start a) (k + 1) : Nat) : Int), ((start a + k : Nat) : Int))) := by
        simp only [Option.bind_some, rowAt]
        split
        · rfl
        · rw [wrap_succ (by omega)]
      rw [key]
      simp only [Option.bind_some, hk, if_true]
      rw [wrap_succ (show start a + k < 9223372036854775807 by omega)]
      by_cases hcc : (rowAt m (start a) (k + 1) : Int) = c
      · rw [if_pos (by simpa using hcc), if_pos (by simpa using hcc), wrap64 (n := ((start a + k + 1 : Nat) : Int) - c) (by omega) (by omega)]
      · rw [if_neg (by simpa using hcc), if_neg (by simpa using hcc)]
        rfl) (by
      unfold marks_Run.l1
      dsimp only
      rw [if_neg (by simp; omega), if_neg (by omega)])
  have hrun' : marks_Run (m, a, b, c) = (some (if j < (bound m b - (start a : Int)).toNat then Sum.inr (((start a + j + 1 : Nat) : Int) - c, true) else Sum.inl ()) : Option (Unit ⊕ (Int × Bool))).bind fun d => match d with | .inl _ => some (0, false) | .inr (t8, t9) => some (t8, t9) := by
    unfold marks_Run
    dsimp only
    rw [if_neg (by simp; omega), wrap64 (n := 8 * (m.length : Int)) (by omega) (by omega), hs]
    rw [show (if 8 * (m.length : Int) < b then 8 * (m.length : Int) else b) = bound m b from rfl]
    rw [show (m, bound m b, c, (0 : Int), ((start a : Nat) : Int)) = (m, bound m b, c, ((rowAt m (start a) 0 : Nat) : Int), ((start a + 0 : Nat) : Int)) from rfl, hrun]
    rfl
  rw [hrun']
  rcases Nat.lt_or_ge j (bound m b - (start a : Int)).toNat with hlt | hge
  · refine .inl ⟨j, by omega, by simpa using hstop hlt, fun q hq => by simpa using hbefore q (by omega) hq, ?_⟩
    rw [if_pos hlt]; rfl
  · refine .inr ⟨fun k hk => by simpa using hbefore k (by omega) (by omega), ?_⟩
    rw [if_neg (by omega)]; rfl

def best (m : List UInt8) : Nat → Nat
  | 0 => 0
  | k + 1 => if rowAt m 0 (k + 1) > best m k then rowAt m 0 (k + 1) else best m k

theorem best_le (m : List UInt8) : ∀ k, best m k ≤ k
  | 0 => Nat.le_refl _
  | k + 1 => by
    have := best_le m k
    have := rowAt_le m 0 (k + 1)
    simp only [best]; split <;> omega

/-! ### What is taken -/

def taken (m : List UInt8) (i : Nat) : Nat → List UInt8
  | 0 => m
  | k + 1 => setM (taken m i k) ((i + k : Nat) : Int) true

theorem taken_len (m : List UInt8) (i : Nat) : ∀ k, (taken m i k).length = m.length
  | 0 => rfl
  | k + 1 => by rw [taken, setM_len, taken_len m i k]

theorem taken_is (m : List UInt8) (i : Nat) : ∀ k, i + k ≤ 8 * m.length → ∀ q : Int, isM (taken m i k) q = if (i : Int) ≤ q ∧ q < ((i + k : Nat) : Int) then true else isM m q
  | 0, _, q => by rw [if_neg (by omega)]; rfl
  | k + 1, h, q => by
    have hl := taken_len m i k
    rw [taken, isM_set _ _ _ _ (by rw [hl]; omega), taken_is m i k (by omega) q]
    by_cases hq : q = ((i + k : Nat) : Int)
    · rw [if_pos hq, if_pos (by omega)]
    · rw [if_neg hq]
      by_cases hc : (i : Int) ≤ q ∧ q < ((i + k : Nat) : Int)
      · rw [if_pos hc, if_pos (by omega)]
      · rw [if_neg hc, if_neg (by omega)]

theorem cnt_taken (m : List UInt8) (i c : Nat) (h : i + c ≤ 8 * m.length) (hf : ∀ q : Nat, i ≤ q → q < i + c → isM m (q : Int) = false) : ∀ L, cnt (taken m i c) L = cnt m L + (if L ≤ i then 0 else if L ≤ i + c then L - i else c)
  | 0 => by simp [cnt]
  | L + 1 => by
    rw [cnt, cnt, cnt_taken m i c h hf L, taken_is m i c h]
    by_cases h1 : i ≤ L ∧ L < i + c
    · rw [if_pos (show (i : Int) ≤ (L : Int) ∧ (L : Int) < ((i + c : Nat) : Int) by omega), hf L h1.1 h1.2]
      have e1 : true.toNat = 1 := rfl
      have e2 : false.toNat = 0 := rfl
      rw [e1, e2]
      split <;> split <;> (try split) <;> (try split) <;> omega
    · rw [if_neg (show ¬ ((i : Int) ≤ (L : Int) ∧ (L : Int) < ((i + c : Nat) : Int)) by omega)]
      split <;> split <;> (try split) <;> (try split) <;> omega
end Go.Proofs.YtiodpeekbeahlaaGreatDoor.Abs
