/- Slabs: what each function says of a slab. -/
import Derived.Test.YtiodpeekbeahlaaGreatDoorStpL
import Derived.Test.YtiodpeekbeahlaaGreatDoorAbsLoops
namespace Go.Proofs.YtiodpeekbeahlaaGreatDoor.Abs
open Go
set_option linter.unusedVariables false
attribute [-simp] List.getD_eq_getElem?_getD

abbrev Blk := List UInt8
abbrev Sl := (Int × Int) × List Blk × List (Int × Blk)

/-! ### Blocks -/

def wholeS (s : Blk) : Blk := s.take 128 ++ List.replicate (128 - (s.take 128).length) 0

theorem min128 (n : Nat) : (if 128 < (n : Int) then 128 else (n : Int)) = ((min 128 n : Nat) : Int) := by
  by_cases h : 128 < (n : Int)
  · rw [if_pos h]; omega
  · rw [if_neg h]; omega
theorem take128 (s : Blk) : s.take (min 128 s.length) = s.take 128 := by
  rw [← List.take_take, List.take_length]

theorem repL_one (b : UInt8) : ∀ n, Lib.repeatL [b] n = List.replicate n b
  | 0 => rfl
  | n + 1 => by rw [Lib.repeatL, repL_one b n, List.replicate_succ]; rfl

theorem pad_is (s : Blk) (h : s.length ≤ 128) : mould_Pad (s, 128) = some (s ++ List.replicate (128 - s.length) 0, 0) := by
  have hf : mould_fits (s, 128) = some 0 := by
    unfold mould_fits
    simp only
    rw [if_pos (by decide), Option.bind_some]
    simp only
    rw [if_neg (by decide), if_neg (by simp; omega)]
  unfold mould_Pad
  simp only
  rw [hf, Option.bind_some, if_neg (by decide), wrap64 (by omega) (by omega)]
  unfold strings_Repeat
  simp only
  rw [if_pos ⟨by omega, by omega, by simp; omega⟩, Option.bind_some, repL_one, if_pos (by simp; omega), show (128 - (s.length : Int)).toNat = 128 - s.length by omega]

theorem whole_is (s : Blk) : slab_whole s = some (wholeS s) := by
  unfold slab_whole
  rw [min128, if_pos (by omega), Int.toNat_natCast, take128, pad_is _ (by simp; omega), Option.bind_some]
  rfl

theorem refWhole_is (s : Blk) : wainwrightref02_Whole s = some (wholeS s) := by
  unfold wainwrightref02_Whole
  have hl : (s.take 128).length ≤ 128 := by simp; omega
  rw [min128, if_pos (by omega), Int.toNat_natCast, take128, wrap64 (by omega) (by omega)]
  unfold wainwrightref01_Zeros
  rw [if_pos ⟨by omega, by omega, by omega, by omega⟩, Option.bind_some, List.map_replicate, if_pos (by simp; omega), show (128 - ((s.take 128).length : Int)).toNat = 128 - (s.take 128).length by omega]
  rfl

/-! ### Loads -/

def firmS (image : List Blk) : List Blk := (image.take 1000).map wholeS

theorem min1000 (n : Nat) : (if 1000 < (n : Int) then 1000 else (n : Int)) = ((min 1000 n : Nat) : Int) := by
  by_cases h : 1000 < (n : Int)
  · rw [if_pos h]; omega
  · rw [if_neg h]; omega

theorem load_is (image : List Blk) : slab_Load image = some ((0, -1), firmS image, []) := by
  unfold slab_Load
  have ht : image.take (min 1000 image.length) = image.take 1000 := by rw [← List.take_take, List.take_length]
  rw [min1000, if_pos (by omega), Int.toNat_natCast, ht]
  have hl : (image.take 1000).length ≤ 1000 := by simp; omega
  unfold firmS
  generalize image.take 1000 = l at hl
  have := loop_run (f := slab_Load.l1) (fun i => (((0, -1), (l.take i).map wholeS, []), l, (l.length : Int), (i : Int))) (n := l.length) (r := ((0, -1), l.map wholeS, [])) (fun i hi => by
    unfold slab_Load.l1
    simp only
    rw [if_pos (by simpa using hi), if_pos (by omega), getD_nat, whole_is, Option.bind_some, if_pos (room (by decide) (by simp; omega)), wrap_succ (by omega), take_succ_getD hi [], List.map_append]
    rfl) (by unfold slab_Load.l1; simp)
  have e0 : ((((0 : Int), (-1 : Int)), ([] : List Blk), ([] : List (Int × Blk))), l, (l.length : Int), (0 : Int)) = (((0, -1), (l.take 0).map wholeS, []), l, (l.length : Int), ((0 : Nat) : Int)) := by simp
  rw [e0, this, Option.bind_some]

theorem clamp (n : Int) : (if 1000 < (if 0 > n then 0 else n) then 1000 else (if 0 > n then 0 else n)) = ((min 1000 n.toNat : Nat) : Int) := by
  by_cases h : 0 > n
  · rw [if_pos h, if_neg (by omega)]; omega
  · rw [if_neg h]
    by_cases h2 : 1000 < n
    · rw [if_pos h2]; omega
    · rw [if_neg h2]; omega

theorem new_is (n : Int) : slab_New n = some ((0, -1), List.replicate (min 1000 n.toNat) (wholeS []), []) := by
  unfold slab_New
  simp only [clamp]
  rw [if_pos (by first | omega | exact ⟨by omega, by omega, by omega, by omega⟩ | exact ⟨by omega, by omega, room (by decide) (by omega)⟩ | exact ⟨by omega, by omega, by omega, room (by decide) (by omega)⟩)]
  rw [Int.toNat_natCast, load_is, Option.bind_some]
  unfold firmS
  rw [List.take_of_length_le (by simp; omega), List.map_replicate]
end Go.Proofs.YtiodpeekbeahlaaGreatDoor.Abs
