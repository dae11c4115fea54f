/- Marks: one bit is changed; how many are 1; the laws of the bits. -/
import Derived.Test.YtldmeogadmgkiaaMarksA
namespace Go.Proofs.Ytldmeogadmgkiaa.Abs
open Go
set_option linter.unusedVariables false
attribute [-simp] List.getD_eq_getElem?_getD

def flipB (b r : Nat) : UInt8 := UInt8.ofNat (b ^^^ 2 ^ r)
def setM (m : List UInt8) (i : Int) (yes : Bool) : List UInt8 :=
  if 0 ≤ i ∧ i < 8 * (m.length : Int) then (if isM m i = yes then m else m.set (i.toNat / 8) (flipB (byteAt m (i.toNat / 8)) (i.toNat % 8))) else m

theorem flip_is : ∀ b : Fin 256, ∀ r : Fin 8, UInt8.ofNat (bitsOp .xor .u8 (b.val : Int) (IntKind.u8.wrap (1 * 2 ^ (min r.val 8)))).toNat = flipB b.val r.val := by decide +kernel

theorem map_back (m : List UInt8) : (m.map fun b => (b.toNat : Int)).map (fun (n : Int) => UInt8.ofNat n.toNat) = m := by
  rw [List.map_map]
  conv => rhs; rw [← List.map_id m]
  exact List.map_congr_left fun b _ => by simp

theorem map_getD (m : List UInt8) (i : Nat) : (m.map fun b => (b.toNat : Int)).getD i 0 = (byteAt m i : Int) := by
  unfold byteAt
  by_cases h : i < m.length
  · simp [List.getD, h]
  · simp [List.getD, h]

theorem setBit_same (m : List UInt8) (i : Nat) (r : Nat) (hr : r < 8) : ((m.map fun b => (b.toNat : Int)).set i (bitsOp .xor .u8 ((m.map fun b => (b.toNat : Int)).getD i 0) (IntKind.u8.wrap (1 * 2 ^ (min r 8))))).map (fun (n : Int) => UInt8.ofNat n.toNat) = m.set i (flipB (byteAt m i) r) := by
  rw [List.map_set, map_back, map_getD]
  have := flip_is ⟨byteAt m i, byteAt_lt _ _⟩ ⟨r, hr⟩
  dsimp only at this
  rw [this]

theorem Set_is (m : List UInt8) (i : Int) (yes : Bool) (h : m.length ≤ 1048576) : marks_Set (m, i, yes) = some (setM m i yes) := by
  unfold marks_Set setM
  dsimp only
  rw [there_is m i h, Is_is m i h]
  simp only [Option.bind_some]
  by_cases hc : 0 ≤ i ∧ i < 8 * (m.length : Int)
  · obtain ⟨e1, e2, e3⟩ := divmod m i hc.1 hc.2 h
    rw [if_pos (by simp [hc]), if_pos hc]
    by_cases hy : isM m i = yes
    · rw [if_pos (by simpa using hy), if_pos hy]
    · rw [if_neg (by simpa using hy), if_neg hy, e1, e2, List.length_map, if_pos (by omega), if_pos (by omega), if_pos (by omega)]
      simp only [Int.toNat_natCast]
      rw [setBit_same m _ _ (by omega)]
  · rw [if_neg (by simp; omega), if_neg hc]

theorem refSet_is (m : List UInt8) (i : Int) (yes : Bool) (h : m.length ≤ 1048576) : wainwrightref03_Set (m, i, yes) = some (setM m i yes) := by
  unfold wainwrightref03_Set setM
  dsimp only
  rw [refIs_is m i h, wrap64 (n := 8 * (m.length : Int)) (by omega) (by omega)]
  simp only [Option.bind_some]
  by_cases hc : 0 ≤ i ∧ i < 8 * (m.length : Int)
  · obtain ⟨e1, e2, e3⟩ := divmod m i hc.1 hc.2 h
    rw [if_pos (by simp; omega), if_pos (by simp; omega), if_pos hc]
    by_cases hy : isM m i = yes
    · rw [if_pos (by simpa using hy), if_pos hy]
    · rw [if_neg (by simpa using hy), if_neg hy, e1, e2, List.length_map, wrapu64 (by omega) (by omega), if_pos (by omega), if_pos (by omega), if_pos (by omega)]
      simp only [Int.toNat_natCast]
      rw [setBit_same m _ _ (by omega)]
  · rw [if_neg hc]
    by_cases h0 : 0 ≤ i
    · rw [if_pos (by simp; omega), if_neg (by simp; omega)]
    · rw [if_neg (by simp; omega)]

/-! ### How many -/

def cnt (m : List UInt8) : Nat → Nat
  | 0 => 0
  | n + 1 => cnt m n + (isM m n).toNat

theorem cnt_le (m : List UInt8) : ∀ n, cnt m n ≤ n
  | 0 => Nat.le_refl _
  | n + 1 => by
    have := cnt_le m n
    have h2 := Bool.toNat_le (isM m n)
    rw [cnt]; omega

def lim (n : Int) : Nat := (if 100000 < (if 0 > n then 0 else n) then 100000 else (if 0 > n then 0 else n)).toNat
theorem lim_is (n : Int) : (if 100000 < (if 0 > n then 0 else n) then 100000 else (if 0 > n then 0 else n)) = ((lim n : Nat) : Int) ∧ lim n ≤ 100000 ∧ (n < 0 → lim n = 0) ∧ (0 ≤ n → n ≤ 100000 → (lim n : Int) = n) ∧ (100000 < n → lim n = 100000) := by
  unfold lim
  split <;> split at * <;> omega

theorem refCount_is (m : List UInt8) (n : Int) (h : m.length ≤ 1048576) : wainwrightref03_Count (m, n) = some ((cnt m (lim n) : Nat) : Int) := by
  obtain ⟨_, q1, q2, q3, q4⟩ := lim_is n
  unfold wainwrightref03_Count
  dsimp only
  have := loop_run (f := wainwrightref03_Count.l1) (fun k => (m, n, ((cnt m k : Nat) : Int), (k : Int))) (n := lim n) (r := ((cnt m (lim n) : Nat) : Int)) (fun k hk => by
    have hc := cnt_le m k
    unfold wainwrightref03_Count.l1
    dsimp only
    rw [if_pos (by simp; omega), if_pos (by simp; omega), refIs_is m _ h, wrap_succ (show k < 9223372036854775807 by omega), wrap_succ (show cnt m k < 9223372036854775807 by omega)]
    simp only [Option.bind_some, cnt]
    cases hb : isM m (k : Int) <;> simp [hb]) (by
    unfold wainwrightref03_Count.l1
    dsimp only
    by_cases hn : 100000 < n
    · rw [if_pos (by simp; omega), if_neg (by simp; omega)]
    · rw [if_neg (by simp; omega)])
  rw [show (0 : Int) = ((cnt m 0 : Nat) : Int) from rfl]
  rw [show (m, n, ((cnt m 0 : Nat) : Int), ((cnt m 0 : Nat) : Int)) = (m, n, ((cnt m 0 : Nat) : Int), ((0 : Nat) : Int)) from rfl, this]; rfl

/-- How many bits of a byte are 1, up to bit r. -/
def pop (b : Nat) : Nat → Nat
  | 0 => 0
  | r + 1 => pop b r + (b.testBit r).toNat

theorem ones_is : ∀ b : Fin 256, bits_OnesCount8 (b.val : Int) = some ((pop b.val 8 : Nat) : Int) := by decide +kernel
theorem mask_is : ∀ b : Fin 256, ∀ r : Fin 8, bits_OnesCount8 (bitsOp .and .u8 (b.val : Int) (IntKind.u8.wrap ((IntKind.u8.wrap (1 * 2 ^ (min r.val 8))) - 1))) = some ((pop b.val r.val : Nat) : Int) := by decide +kernel

theorem cnt_byte (m : List UInt8) (k : Nat) (hk : k < m.length) : ∀ r, r ≤ 8 → cnt m (8 * k + r) = cnt m (8 * k) + pop (byteAt m k) r
  | 0, _ => by simp [pop]
  | r + 1, hr => by
    rw [← Nat.add_assoc, cnt, cnt_byte m k hk r (by omega), pop]
    have : isM m ((8 * k + r : Nat) : Int) = (byteAt m k).testBit r := by
      unfold isM
      rw [if_pos (by omega), Int.toNat_natCast, show (8 * k + r) / 8 = k by omega, show (8 * k + r) % 8 = r by omega]
    rw [this]; omega

theorem cnt_out (m : List UInt8) (a : Nat) (ha : 8 * m.length ≤ a) : ∀ d, cnt m (a + d) = cnt m a + d
  | 0 => rfl
  | d + 1 => by
    rw [← Nat.add_assoc, cnt, cnt_out m a ha d]
    have : isM m ((a + d : Nat) : Int) = true := by
      unfold isM
      rw [if_neg (by omega)]
    rw [this]; rfl

theorem Count_is (m : List UInt8) (n : Int) (h : m.length ≤ 1048576) : marks_Count (m, n) = some ((cnt m (lim n) : Nat) : Int) := by
  obtain ⟨q0, q1, _⟩ := lim_is n
  unfold marks_Count
  dsimp only
  rw [q0]
  generalize lim n = L at q1
  have e1 : IntKind.i64.wrap (Int.tdiv (L : Int) 8) = ((L / 8 : Nat) : Int) := by
    rw [Int.tdiv_eq_ediv_of_nonneg (by omega), wrap64] <;> omega
  rw [e1, wrap64 (n := 8 * (m.length : Int)) (by omega) (by omega), wrap64 (n := (L : Int) - 8 * (m.length : Int)) (by omega) (by omega)]
  obtain ⟨W, hW, hW1, hW2⟩ : ∃ W : Nat, (if (m.length : Int) < ((L / 8 : Nat) : Int) then (m.length : Int) else ((L / 8 : Nat) : Int)) = (W : Int) ∧ W ≤ m.length ∧ (W = L / 8 ∨ (W = m.length ∧ W < L / 8)) := by
    by_cases hh : m.length < L / 8
    · exact ⟨m.length, by rw [if_pos (by omega)], by omega, .inr ⟨rfl, hh⟩⟩
    · exact ⟨L / 8, by rw [if_neg (by omega)], by omega, .inl rfl⟩
  rw [hW, if_pos (by omega)]
  obtain ⟨X, hX, hX2⟩ : ∃ X : Nat, (if 0 > (L : Int) - 8 * (m.length : Int) then 0 else (L : Int) - 8 * (m.length : Int)) = (X : Int) ∧ X = L - 8 * m.length := ⟨L - 8 * m.length, by split <;> omega, rfl⟩
  rw [hX]
  simp only [Int.toNat_natCast]
  have hlen : ((m.take W).map fun b => (b.toNat : Int)).length = W := by simp; omega
  rw [hlen]
  have hc : ∀ k, cnt m (8 * k) ≤ 8 * k := fun k => cnt_le m _
  have := loop_run (f := marks_Count.l1) (fun k => (m, (L : Int), (W : Int), ((X + cnt m (8 * k) : Nat) : Int), (m.take W).map (fun b => (b.toNat : Int)), (W : Int), (k : Int))) (n := W) (r := (m, (L : Int), (W : Int), ((X + cnt m (8 * W) : Nat) : Int))) (fun k hk => by
    have h1 := hc k
    unfold marks_Count.l1
    dsimp only
    rw [if_pos (by simp; omega), hlen, if_pos (by omega)]
    have e2 : ((m.take W).map fun b => (b.toNat : Int)).getD ((k : Int)).toNat 0 = ((byteAt m k : Nat) : Int) := by
      rw [Int.toNat_natCast]
      simp [byteAt, List.getD, List.getElem?_take, hk, show k < m.length by omega]
    rw [e2, ones_is ⟨byteAt m k, byteAt_lt _ _⟩]
    simp only [Option.bind_some]
    have e3 := cnt_byte m k (by omega) 8 (Nat.le_refl _)
    have e4 := hc (k + 1)
    rw [show 8 * (k + 1) = 8 * k + 8 by omega, e3] at e4 ⊢
    rw [wrap_succ (by omega)]
    rw [show (((X + cnt m (8 * k) : Nat) : Int) + ((pop (byteAt m k) 8 : Nat) : Int)) = ((X + cnt m (8 * k) + pop (byteAt m k) 8 : Nat) : Int) by omega, wrap_nat (by omega), Nat.add_assoc]) (by
    unfold marks_Count.l1
    dsimp only
    rw [if_neg (by simp)])
  rw [show ((X : Nat) : Int) = ((X + cnt m (8 * 0) : Nat) : Int) by simp [cnt], show (0 : Int) = ((0 : Nat) : Int) from rfl, this]
  simp only [Option.bind_some]
  have h1 := hc W
  have e5 : IntKind.i64.wrap ((L : Int) - IntKind.i64.wrap (8 * (W : Int))) = (L : Int) - 8 * (W : Int) := by
    rw [wrap64 (n := 8 * (W : Int)) (by omega) (by omega), wrap64 (by omega) (by omega)]
  rw [e5]
  by_cases hWm : W < m.length
  · rw [if_pos (by simp; omega)]
    simp only [Option.bind_some]
    have hWL : W = L / 8 := by omega
    have hX0 : X = 0 := by omega
    by_cases hr : 0 < L % 8
    · rw [if_pos (by simp; omega), if_pos (by omega), if_pos (by omega)]
      have e6 : (L : Int) - 8 * (W : Int) = ((L % 8 : Nat) : Int) := by omega
      rw [e6, Int.toNat_natCast, Int.toNat_natCast]
      have := mask_is ⟨byteAt m W, byteAt_lt _ _⟩ ⟨L % 8, by omega⟩
      dsimp only at this
      rw [show (((m.getD W 0).toNat : Nat) : Int) = ((byteAt m W : Nat) : Int) from rfl, this]
      simp only [Option.bind_some]
      have e7 := cnt_byte m W hWm (L % 8) (by omega)
      have e8 := cnt_le m (8 * W + L % 8)
      rw [show (((X + cnt m (8 * W) : Nat) : Int) + ((pop (byteAt m W) (L % 8) : Nat) : Int)) = ((X + cnt m (8 * W) + pop (byteAt m W) (L % 8) : Nat) : Int) by omega, wrap_nat (by omega)]
      have hL : cnt m L = cnt m (8 * W) + pop (byteAt m W) (L % 8) := by
        rw [← e7, show 8 * W + L % 8 = L by omega]
      rw [hL, hX0]
      exact congrArg some (by omega)
    · rw [if_neg (by simp; omega)]
      have : L = 8 * W := by omega
      rw [this, hX0]; simp
  · rw [if_neg (by simp; omega)]
    simp only [Option.bind_some, Bool.false_eq_true, if_false]
    have hWe : W = m.length := by omega
    have := cnt_out m (8 * m.length) (Nat.le_refl _) (L - 8 * m.length)
    rw [show 8 * m.length + (L - 8 * m.length) = L by omega] at this
    rw [this, hX2, hWe]
    congr 1
    omega

/-! ### The laws -/

theorem early3_is (m : List UInt8) (h : m.length ≤ 1048576) : wainwrightlaw03_early m = some (m.take 60) := by
  unfold wainwrightlaw03_early
  rw [if_pos (by split <;> omega)]
  congr 1
  split
  · rfl
  · rw [Int.toNat_natCast, List.take_length, List.take_of_length_le (by omega)]

theorem str_len (m : List UInt8) {n : Nat} (h : bulk .str m ≤ n) : m.length ≤ n := by
  simp only [bulk] at h
  omega

theorem wainwrightlaw03_MarksBits_row (x0 : List UInt8) (x1 : Int) (x2 : Bool) (w0 : wfD .str x0) (w1 : wfD I x1) (w2 : wfD .bool x2) (hb : bulk .str x0 + bulk I x1 + bulk .bool x2 ≤ 1048576) :
    wainwrightlaw03_MarksBits (x0, x1, x2) = some true := by
  have e0 : x0.length ≤ 1048576 := str_len x0 (by omega)
  have e1 : (x0.take 60).length ≤ 1048576 := by simp; omega
  unfold wainwrightlaw03_MarksBits
  simp [lives3_is, early3_is x0 e0, Is_is _ _ e1, refIs_is _ _ e1, Set_is _ _ _ e1, refSet_is _ _ _ e1, Count_is _ _ e1, refCount_is _ _ e1]

theorem setM_len (m : List UInt8) (i : Int) (y : Bool) : (setM m i y).length = m.length := by
  unfold setM
  split
  · split <;> simp
  · rfl

theorem flip_bit : ∀ b : Fin 256, ∀ r : Fin 8, ∀ q : Fin 8, (flipB b.val r.val).toNat.testBit q.val = if q = r then !b.val.testBit q.val else b.val.testBit q.val := by decide +kernel
theorem flip_flip : ∀ b : Fin 256, ∀ r : Fin 8, flipB (flipB b.val r.val).toNat r.val = UInt8.ofNat b.val := by decide +kernel

theorem byteAt_set (m : List UInt8) (i q : Nat) (v : UInt8) (hi : i < m.length) : byteAt (m.set i v) q = if q = i then v.toNat else byteAt m q := by
  unfold byteAt
  by_cases h : q = i
  · subst h; simp [List.getD, hi]
  · have h' : i ≠ q := fun e => h e.symm
    simp [List.getD, h, h']

/-- One bit is changed, the others stay. -/
theorem isM_set (m : List UInt8) (i q : Int) (y : Bool) (hi : 0 ≤ i ∧ i < 8 * (m.length : Int)) : isM (setM m i y) q = if q = i then y else isM m q := by
  have hl := setM_len m i y
  by_cases hy : isM m i = y
  · have : setM m i y = m := by unfold setM; rw [if_pos hi, if_pos hy]
    rw [this]
    split
    · rename_i e; rw [e, hy]
    · rfl
  · have hs : setM m i y = m.set (i.toNat / 8) (flipB (byteAt m (i.toNat / 8)) (i.toNat % 8)) := by unfold setM; rw [if_pos hi, if_neg hy]
    have hlt : i.toNat / 8 < m.length := by omega
    by_cases hq : 0 ≤ q ∧ q < 8 * (m.length : Int)
    · have e1 : isM (setM m i y) q = (byteAt (setM m i y) (q.toNat / 8)).testBit (q.toNat % 8) := by
        unfold isM; rw [hl, if_pos hq]
      have e2 : isM m q = (byteAt m (q.toNat / 8)).testBit (q.toNat % 8) := by unfold isM; rw [if_pos hq]
      have e3 : isM m i = (byteAt m (i.toNat / 8)).testBit (i.toNat % 8) := by unfold isM; rw [if_pos hi]
      rw [e1, hs, byteAt_set _ _ _ _ hlt]
      by_cases hb : q.toNat / 8 = i.toNat / 8
      · rw [if_pos hb]
        have := flip_bit ⟨byteAt m (i.toNat / 8), byteAt_lt _ _⟩ ⟨i.toNat % 8, by omega⟩ ⟨q.toNat % 8, by omega⟩
        simp only [Fin.mk.injEq] at this
        rw [this]
        by_cases hqi : q = i
        · subst hqi
          rw [if_pos rfl, if_pos rfl, ← e3]
          cases h1 : isM m q <;> cases y <;> simp_all
        · rw [if_neg (by omega), if_neg hqi, e2, hb]
      · rw [if_neg hb, if_neg (by intro e; subst e; exact hb rfl), e2]
    · rw [if_neg (by intro e; subst e; exact hq hi)]
      unfold isM
      rw [hl, if_neg hq, if_neg hq]

theorem setM_back (m : List UInt8) (i : Int) (y : Bool) (hi : 0 ≤ i ∧ i < 8 * (m.length : Int)) : setM (setM m i y) i (isM m i) = m := by
  have hl := setM_len m i y
  have h1 := isM_set m i i y hi
  rw [if_pos rfl] at h1
  by_cases hy : isM m i = y
  · have : setM m i y = m := by unfold setM; rw [if_pos hi, if_pos hy]
    rw [this]
    unfold setM; rw [if_pos hi, if_pos rfl]
  · have hs : setM m i y = m.set (i.toNat / 8) (flipB (byteAt m (i.toNat / 8)) (i.toNat % 8)) := by unfold setM; rw [if_pos hi, if_neg hy]
    have hlt : i.toNat / 8 < m.length := by omega
    have h2 : setM (setM m i y) i (isM m i) = (setM m i y).set (i.toNat / 8) (flipB (byteAt (setM m i y) (i.toNat / 8)) (i.toNat % 8)) := by
      generalize setM m i y = x at h1 hl ⊢
      unfold setM
      rw [hl, if_pos hi, if_neg (by rw [h1]; exact fun e => hy e.symm)]
    rw [h2, hs, byteAt_set _ _ _ _ hlt, if_pos rfl, List.set_set]
    have := flip_flip ⟨byteAt m (i.toNat / 8), byteAt_lt _ _⟩ ⟨i.toNat % 8, by omega⟩
    dsimp only at this
    rw [this]
    have e : UInt8.ofNat (byteAt m (i.toNat / 8)) = m[i.toNat / 8] := by simp [byteAt, List.getD, hlt]
    rw [e]; exact List.set_getElem_self hlt

theorem wainwrightlaw03_MarksSet_row (x0 : List UInt8) (x1 : Int) (x2 : Bool) (w0 : wfD .str x0) (w1 : wfD I x1) (w2 : wfD .bool x2) (hb : bulk .str x0 + bulk I x1 + bulk .bool x2 ≤ 1048576) :
    wainwrightlaw03_MarksSet (x0, x1, x2) = some true := by
  have e0 : x0.length ≤ 1048576 := str_len x0 (by omega)
  have e1 : (x0.take 60).length ≤ 60 := by simp; omega
  unfold wainwrightlaw03_MarksSet
  simp only [lives3_is, early3_is x0 e0, Option.bind_some, Bool.not_true, Bool.false_eq_true, if_false]
  generalize x0.take 60 = m at e1
  rw [Set_is _ _ _ (by omega)]
  have hl := setM_len m x1 x2
  simp only [Option.bind_some]
  rw [wrap64 (n := 8 * (m.length : Int)) (by omega) (by omega)]
  by_cases hi : 0 ≤ x1 ∧ x1 < 8 * (m.length : Int)
  · rw [if_pos (by simp; omega)]
    simp only [Option.bind_some]
    rw [if_neg (by simp; omega), if_pos (by simp [hl]), Is_is _ _ (by omega)]
    have h1 := isM_set m x1 x1 x2 hi
    rw [if_pos rfl] at h1
    simp only [Option.bind_some, h1]
    rw [if_neg (by simp)]
    have := loop_run (f := wainwrightlaw03_MarksSet.l1) (fun k => (m, x1, setM m x1 x2, (k : Int))) (n := 8 * m.length) (r := .inl (m, x1, setM m x1 x2)) (fun k hk => by
      unfold wainwrightlaw03_MarksSet.l1
      dsimp only
      rw [wrap64 (n := 8 * (m.length : Int)) (by omega) (by omega), if_pos (by simp; omega), wrap_succ (by omega), Is_is _ _ (by omega), Is_is _ _ (by omega)]
      have h2 := isM_set m x1 (k : Int) x2 hi
      by_cases hk1 : (k : Int) = x1
      · rw [if_neg (by simp [hk1])]
      · rw [if_neg hk1] at h2
        rw [if_pos (by simpa using hk1)]
        simp [h2]) (by
      unfold wainwrightlaw03_MarksSet.l1
      dsimp only
      rw [wrap64 (n := 8 * (m.length : Int)) (by omega) (by omega), if_neg (by simp)])
    rw [show (0 : Int) = ((0 : Nat) : Int) from rfl, this]
    simp only [Option.bind_some]
    rw [Is_is _ _ (by omega)]
    simp only [Option.bind_some]
    rw [Set_is _ _ _ (by omega)]
    simp only [Option.bind_some, setM_back m x1 x2 hi]
    simp
  · have hs : setM m x1 x2 = m := by unfold setM; rw [if_neg hi]
    have ht : isM m x1 = true := by unfold isM; rw [if_neg hi]
    have hc : ((if decide (x1 < 0) = false then some (m, x1, x2, setM m x1 x2, decide (x1 ≥ 8 * (m.length : Int))) else some (m, x1, x2, setM m x1 x2, true)) : Option (List UInt8 × Int × Bool × List UInt8 × Bool)) = some (m, x1, x2, setM m x1 x2, true) := by
      by_cases h0 : 0 ≤ x1
      · rw [if_pos (by simp; omega), show decide (x1 ≥ 8 * (m.length : Int)) = true by simp; omega]
      · rw [if_neg (by simp; omega)]
    rw [hc]
    simp [hs, Is_is _ _ (show m.length ≤ 1048576 by omega), ht]

end Go.Proofs.Ytldmeogadmgkiaa.Abs
