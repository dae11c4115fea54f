/- Marks: what the functions compute. -/
import Derived.Test.YtldmeogadmgkiaaFnsME
import Derived.Test.YtldmeogadmgkiaaAbsLoops
import Derived.Test.YtldmeogadmgkiaaAbsLaw
namespace Go.Proofs.Ytldmeogadmgkiaa.Abs
open Go
set_option linter.unusedVariables false
attribute [-simp] List.getD_eq_getElem?_getD

theorem lives3_is : wainwrightlaw03_lives () = some true := wainwrightlaw03_lives.le () true (by kernel_rfl)

def byteAt (m : List UInt8) (i : Nat) : Nat := (m.getD i 0).toNat
theorem byteAt_lt (m : List UInt8) (i : Nat) : byteAt m i < 256 := (m.getD i 0).toNat_lt

/-- Whether block i is taken. -/
def isM (m : List UInt8) (i : Int) : Bool := if 0 ≤ i ∧ i < 8 * (m.length : Int) then (byteAt m (i.toNat / 8)).testBit (i.toNat % 8) else true

theorem there_is (m : List UInt8) (i : Int) (h : m.length ≤ 1048576) : marks_there (m, i) = some (decide (0 ≤ i ∧ i < 8 * (m.length : Int))) := by
  unfold marks_there
  dsimp only
  rw [wrap64 (n := 8 * (m.length : Int)) (by omega) (by omega)]
  by_cases h0 : 0 ≤ i
  · rw [if_pos (by simpa using h0)]; simp [h0]
  · rw [if_neg (by simpa using h0)]; simp [h0]

theorem bit_is : ∀ b : Fin 256, ∀ r : Fin 8, (bitsOp .and .u8 (Int.fdiv ((b.val : Nat) : Int) (2 ^ (min r.val 8))) 1 == 1) = b.val.testBit r.val := by decide +kernel

theorem divmod (m : List UInt8) (i : Int) (h0 : 0 ≤ i) (h1 : i < 8 * (m.length : Int)) (h : m.length ≤ 1048576) :
    IntKind.i64.wrap (Int.tdiv i 8) = ((i.toNat / 8 : Nat) : Int) ∧ Int.tmod i 8 = ((i.toNat % 8 : Nat) : Int) ∧ i.toNat / 8 < m.length := by
  obtain ⟨n, rfl⟩ : ∃ n : Nat, i = (n : Int) := ⟨i.toNat, by omega⟩
  refine ⟨?_, ?_, by simp; omega⟩
  · rw [wrap64] <;> simp [Int.tdiv_eq_ediv_of_nonneg] <;> omega
  · rw [Int.tmod_eq_emod_of_nonneg (by omega)]; simp

theorem Is_is (m : List UInt8) (i : Int) (h : m.length ≤ 1048576) : marks_Is (m, i) = some (isM m i) := by
  unfold marks_Is isM
  dsimp only
  rw [there_is m i h]
  simp only [Option.bind_some]
  by_cases hc : 0 ≤ i ∧ i < 8 * (m.length : Int)
  · obtain ⟨e1, e2, e3⟩ := divmod m i hc.1 hc.2 h
    rw [if_pos (by simp [hc]), e1, e2, if_pos (by omega), if_pos (by omega), if_pos hc]
    simp only [Int.toNat_natCast]
    have := bit_is ⟨byteAt m (i.toNat / 8), byteAt_lt _ _⟩ ⟨i.toNat % 8, by omega⟩
    rw [← this]; rfl
  · rw [if_neg (by simp; omega), if_neg hc]

theorem bit2_is : ∀ b : Fin 256, ∀ r : Fin 8, (Int.tmod ((b.val / 2 ^ r.val : Nat) : Int) 2 == 1) = b.val.testBit r.val := by decide +kernel

theorem refIs_is (m : List UInt8) (i : Int) (h : m.length ≤ 1048576) : wainwrightref03_Is (m, i) = some (isM m i) := by
  unfold wainwrightref03_Is isM
  dsimp only
  rw [wrap64 (n := 8 * (m.length : Int)) (by omega) (by omega)]
  by_cases h0 : 0 ≤ i
  · rw [if_pos (by simpa using h0)]
    by_cases h1 : i < 8 * (m.length : Int)
    · obtain ⟨e1, e2, e3⟩ := divmod m i h0 h1 h
      rw [if_neg (by simpa using h1), e1, if_pos (by omega), if_pos ⟨h0, h1⟩]
      simp only [Int.toNat_natCast]
      have hb := byteAt_lt m (i.toNat / 8)
      rw [show ((m.getD (i.toNat / 8) 0).toNat : Int) = ((byteAt m (i.toNat / 8) : Nat) : Int) from rfl, wrap_nat (by omega)]
      generalize byteAt m (i.toNat / 8) = b at hb ⊢
      have hr : i.toNat % 8 < 8 := by omega
      generalize hrr : i.toNat % 8 = r at hr e2 ⊢
      have := loop_run (f := wainwrightref03_Is.l1) (fun k => (i, ((b / 2 ^ k : Nat) : Int), (k : Int))) (n := r) (r := ((b / 2 ^ r : Nat) : Int)) (fun k hk => by
        unfold wainwrightref03_Is.l1
        dsimp only
        rw [e2, if_pos (by simpa using hk), wrap_succ (by omega)]
        have : b / 2 ^ k < 256 := Nat.lt_of_le_of_lt (Nat.div_le_self _ _) hb
        have e : Int.tdiv ((b / 2 ^ k : Nat) : Int) 2 = ((b / 2 ^ (k + 1) : Nat) : Int) := by
          rw [Int.tdiv_eq_ediv_of_nonneg (Int.natCast_nonneg _), Nat.pow_succ, ← Nat.div_div_eq_div_mul]
          simp
        rw [e, wrap_nat]
        have : b / 2 ^ (k + 1) ≤ b := Nat.div_le_self _ _
        omega) (by
        unfold wainwrightref03_Is.l1
        dsimp only
        rw [e2, if_neg (by simp)])
      rw [show (((b : Nat) : Int)) = ((b / 2 ^ 0 : Nat) : Int) by simp, show (0 : Int) = ((0 : Nat) : Int) from rfl, this]
      simp only [Option.bind_some]
      exact congrArg some (bit2_is ⟨b, hb⟩ ⟨r, hr⟩)
    · rw [if_pos (by simpa using h1), if_neg (by omega)]
  · rw [if_neg (by simpa using h0), if_neg (by omega)]

end Go.Proofs.Ytldmeogadmgkiaa.Abs
