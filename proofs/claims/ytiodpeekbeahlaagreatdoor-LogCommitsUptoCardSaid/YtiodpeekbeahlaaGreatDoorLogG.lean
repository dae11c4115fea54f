/- To recover twice is to recover once. -/
import Derived.Test.YtiodpeekbeahlaaGreatDoorLogF
namespace Go.Proofs.YtiodpeekbeahlaaGreatDoor.Abs
open Go
set_option linter.unusedVariables false
attribute [-simp] List.getD_eq_getElem?_getD

theorem firm_len (image : List Blk) (h : image.length ≤ 1000) : (firmS image).length = image.length := by
  unfold firmS; simp; omega
theorem firm_blk (image : List Blk) (i : Nat) (hi : i < (firmS image).length) : ((firmS image).getD i []).length = 128 := by
  have h : ∀ b ∈ firmS image, b.length = 128 := fun b hb => by
    obtain ⟨x, _, rfl⟩ := List.mem_map.1 hb
    exact wholeS_len _
  rw [getD_lt hi]
  exact h _ (List.getElem_mem hi)
theorem firm_id (image : List Blk) (h : image.length ≤ 1000) (hb : ∀ b ∈ image, b.length = 128) : firmS image = image := by
  unfold firmS
  rw [List.take_of_length_le h]
  refine List.ext_getElem (by simp) fun i h1 h2 => ?_
  rw [List.getElem_map]
  exact wholeS_id _ (hb _ (List.getElem_mem _))

theorem okay_load (image : List Blk) (h : image.length ≤ 1000) : Okay image.length 0 ((0, -1), firmS image, []) :=
  ⟨firm_len image h, by omega, by simp, (fun e he => by cases he), by simp, by simp⟩

theorem zeroS_len : zeroS.length = 128 := by unfold zeroS; simp

theorem LogTwice_load (head : Blk) (blocks : List Blk) : ∃ im : List Blk, im.length = 80 ∧ loopO wainwrightlaw11_LogTwice.l1 (List.replicate 80 ([] : List UInt8), head, blocks, 0) = some (im, head) := by
  obtain ⟨st, h0, hl, hs⟩ : ∃ st : Nat → List Blk, st 0 = List.replicate 80 [] ∧ (∀ i, (st i).length = 80) ∧ ∀ i, st (i + 1) = (st i).set i (blocks.getD i []) := by
    refine ⟨fun i => (List.range i).foldl (fun a k => a.set k (blocks.getD k [])) (List.replicate 80 []), rfl, fun i => ?_, fun i => ?_⟩
    · induction i with
      | zero => rfl
      | succ i ih => simp only; rw [List.range_succ, List.foldl_append]; simp only [List.foldl_cons, List.foldl_nil, List.length_set]; exact ih
    · simp only
      rw [List.range_succ, List.foldl_append]
      rfl
  have := loop_run (f := wainwrightlaw11_LogTwice.l1) (fun i => (st i, head, blocks, (i : Int))) (n := min blocks.length 80) (r := (st (min blocks.length 80), head)) (fun i hi => by
    have h1 := hl i
    unfold wainwrightlaw11_LogTwice.l1
    simp only
    rw [if_pos (by rw [decide_eq_true_eq]; omega), if_pos (by rw [decide_eq_true_eq]; omega), if_pos (by omega), if_pos (by omega), wrap_succ (by omega), hs, getD_nat, Int.toNat_natCast]) (by
    unfold wainwrightlaw11_LogTwice.l1
    simp only
    by_cases h : blocks.length ≤ 80
    · rw [if_neg (by rw [decide_eq_true_eq]; omega)]
    · rw [if_pos (by rw [decide_eq_true_eq]; omega), if_neg (by rw [decide_eq_true_eq]; omega)])
  refine ⟨st (min blocks.length 80), hl _, ?_⟩
  rw [← this, h0]
  rfl

theorem wainwrightlaw11_LogTwice_row (x0 : Blk) (x1 : List Blk) (w0 : wfD .str x0) (w1 : wfD (.sl .str) x1)
    (hb : bulk .str x0 + bulk (.sl .str) x1 ≤ 1048576) : wainwrightlaw11_LogTwice (x0, x1) = some true := by
  obtain ⟨im, him, hload⟩ := LogTwice_load x0 x1
  unfold wainwrightlaw11_LogTwice
  simp only
  rw [lives_is, Option.bind_some, if_neg (by simp), if_pos (by omega), hload, Option.bind_some]
  simp only
  rw [if_pos (by omega), load_is, Option.bind_some]
  have hl : (im.set 1 x0).length = 80 := by simp [him]
  generalize im.set 1 x0 = image at hl
  have hok := okay_load image (by omega)
  have hfl := firm_len image (by omega)
  have hblk := firm_blk image 1 (by omega)
  rw [hl] at hok hfl
  obtain ⟨o1, o2⟩ := log_open hok (by omega) (.inl hblk)
  simp only
  generalize firmS image = xs at hok hfl hblk o1 o2 ⊢
  rw [o1, Option.bind_some, if_neg (by omega)]
  cases hr : (readS xs).2 with
  | false =>
    rw [if_pos rfl]
    simp only
    rw [if_pos (by decide)]
  | true =>
    rw [if_neg (by simp)]
    by_cases he : (readS xs).1 = []
    · rw [if_pos he]
      simp only
      rw [if_neg (by decide)]
      unfold slab_Slab_Calls
      simp only
      rw [Option.bind_some, hok.image, Option.bind_some]
      simp only
      rw [o1, if_neg (by omega), hr, if_neg (by simp), if_pos he, Option.bind_some]
      simp only
      rw [if_pos (by decide), Option.bind_some, if_pos (by simp), hok.image, Option.bind_some]
      simp only
      rw [refSame_is (sameS.refl _) (by rw [image_len]; omega)]
      rfl
    · rw [if_neg he]
      have hok2 := o2 (by omega) hr
      have hz : ((putS xs (readS xs).1).set 1 zeroS).getD 1 [] = zeroS := by rw [setB, if_pos ⟨rfl, by rw [putS_len]; omega⟩]
      obtain ⟨q1, q2⟩ := log_open hok2 (by omega) (.inl (by rw [hz]; exact zeroS_len))
      simp only
      rw [if_neg (by decide)]
      unfold slab_Slab_Calls
      simp only
      rw [Option.bind_some, hok2.image, Option.bind_some]
      simp only
      rw [q1, if_neg (by omega), readS_zero hz, if_neg (by simp), if_pos rfl, Option.bind_some]
      simp only
      rw [if_pos (by decide), Option.bind_some, if_pos (by simp), hok2.image, Option.bind_some]
      simp only
      rw [refSame_is (sameS.refl _) (by rw [image_len, List.length_set, putS_len]; omega)]
      rfl
end Go.Proofs.YtiodpeekbeahlaaGreatDoor.Abs
