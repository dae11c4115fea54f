/- The crown of a disk of so many blocks. -/
import Derived.Test.YtiodpeekbeahlaaGreatDoorStpA
namespace Go.Proofs.YtiodpeekbeahlaaGreatDoor.Abs
open Go
set_option linter.unusedVariables false
attribute [-simp] List.getD_eq_getElem?_getD

/-! ### The crown -/

def crownB (n : Nat) : Blk := [119, 97, 105, 110, 119, 114, 105, 103, 104, 116, 1, UInt8.ofNat n, UInt8.ofNat (n / 256), 0] ++ List.replicate 114 0
theorem crown_len (n : Nat) : (crownB n).length = 128 := by unfold crownB; simp

theorem crownW_all : ((List.range 337).all fun k => decide (crown_Write.e (1, ((64 + k : Nat) : Int), 0) = some (crownB (64 + k), 0))) = true := by kernel_rfl
theorem crownR_all : ((List.range 337).all fun k => decide (crown_Read.e (crownB (64 + k)) = some ((1, ((64 + k : Nat) : Int), 0), 0))) = true := by kernel_rfl
theorem refCrownW_all : ((List.range 337).all fun k => decide (wainwrightref10_Write.e (1, ((64 + k : Nat) : Int), 0) = some (crownB (64 + k), 0))) = true := by kernel_rfl

theorem refCrownR_all : ((List.range 337).all fun k => decide (wainwrightref10_Read.e (crownB (64 + k)) = some ((1, ((64 + k : Nat) : Int), 0), 0))) = true := by kernel_rfl

theorem crown_w {n : Nat} (h : 64 ≤ n ∧ n ≤ 400) : crown_Write (1, (n : Int), 0) = some (crownB n, 0) := by
  have := of_decide_eq_true (List.all_eq_true.1 crownW_all (n - 64) (List.mem_range.2 (by omega)))
  rw [show 64 + (n - 64) = n by omega] at this
  exact crown_Write.le _ _ this
theorem crown_r {n : Nat} (h : 64 ≤ n ∧ n ≤ 400) : crown_Read (crownB n) = some ((1, (n : Int), 0), 0) := by
  have := of_decide_eq_true (List.all_eq_true.1 crownR_all (n - 64) (List.mem_range.2 (by omega)))
  rw [show 64 + (n - 64) = n by omega] at this
  exact crown_Read.le _ _ this
theorem refCrown_w {n : Nat} (h : 64 ≤ n ∧ n ≤ 400) : wainwrightref10_Write (1, (n : Int), 0) = some (crownB n, 0) := by
  have := of_decide_eq_true (List.all_eq_true.1 refCrownW_all (n - 64) (List.mem_range.2 (by omega)))
  rw [show 64 + (n - 64) = n by omega] at this
  exact wainwrightref10_Write.le _ _ this

theorem refCrown_r {n : Nat} (h : 64 ≤ n ∧ n ≤ 400) : wainwrightref10_Read (crownB n) = some ((1, (n : Int), 0), 0) := by
  have := of_decide_eq_true (List.all_eq_true.1 refCrownR_all (n - 64) (List.mem_range.2 (by omega)))
  rw [show 64 + (n - 64) = n by omega] at this
  exact wainwrightref10_Read.le _ _ this
end Go.Proofs.YtiodpeekbeahlaaGreatDoor.Abs
