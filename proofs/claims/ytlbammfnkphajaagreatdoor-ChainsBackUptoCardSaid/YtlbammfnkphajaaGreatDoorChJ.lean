/- Chains: the laws. -/
import Derived.Test.YtlbammfnkphajaaGreatDoorChI
namespace Go.Proofs.YtlbammfnkphajaaGreatDoor.Abs
open Go
set_option linter.unusedVariables false
attribute [-simp] List.getD_eq_getElem?_getD

theorem nb_nil : nbM [] = 0 := by decide +kernel

/-- A file on a new disk, and what it holds. -/
structure Kept (n T : Nat) (k0 : Card) (w : Loo) (k : Card) (bs m : List Int) : Prop where
  disk : Disk 1 n (newX n) w
  filed : Filed n (newX n) w k (wid 76 m) bs
  ents : entries n m
  tot : freeS n (mkW (newX n) w) + bs.length = T
  cnt : bs.length = nbM m
  same : k.2.2.1 = k0.2.2.1 ∧ k.2.2.2.1 = k0.2.2.2.1

theorem kept_new {n : Nat} (hr : 64 ≤ n ∧ n ≤ 400) : Kept n (n - 51) fresh (w0 n) fresh [] [] :=
  ⟨new_disk hr, fresh_filed, (fun x hx => by cases hx), by rw [new_free hr]; rfl, nb_nil.symm, rfl, rfl⟩

section
variable {n T : Nat} {k0 : Card} {w : Loo} {k : Card} {bs m0' : List Int} (h : Kept n T k0 w k bs m0') (c u : Int) (p1 : Bool) (p2 : Int)
include h

theorem kept_over (m : List Int) (hm : m.length ≤ 60000) (he : entries n m) (ho : overM m = true) : chains_Save (((p1, p2), w, (c, u), newX n, []), k, m) = some (((p1, p2), w, (c, u), newX n, []), zeroC, 12) := by
  rw [save_s h.disk c u p1 p2 h.filed m hm he, if_pos ho]

theorem kept_full (m : List Int) (hm : m.length ≤ 60000) (he : entries n m) (ho : overM m = false) (hf : T < nbM m) : chains_Save (((p1, p2), w, (c, u), newX n, []), k, m) = some (((p1, p2), w, (c, u), newX n, []), zeroC, 10) := by
  rw [save_s h.disk c u p1 p2 h.filed m hm he, ho, if_neg (c := false = true) (by decide), if_pos (by rw [h.tot]; exact hf)]

theorem kept_save (m : List Int) (hm : m.length ≤ 60000) (he : entries n m) (ho : overM m = false) (hf : nbM m ≤ T) : ∃ w' k' bs', chains_Save (((p1, p2), w, (c, u), newX n, []), k, m) = some (((p1, p2), w', (c, u), newX n, []), k', 0) ∧ Kept n T k0 w' k' bs' m := by
  have hr := h.disk.room
  obtain ⟨s1, s2, s3, s4, s5, s6, s7⟩ := save_ok h.disk h.filed he (by rw [h.tot]; exact hf)
  have ht := h.tot
  refine ⟨_, _, _, ?_, s1, s2, he, by rw [s3]; omega, s3, h.same⟩
  rw [save_s h.disk c u p1 p2 h.filed m hm he, ho, if_neg (c := false = true) (by decide), if_neg (by omega)]

theorem kept_free : stock_Free ((p1, p2), w, (c, u), newX n, []) = some (((p1, p2), w, (c, u), newX n, []), ((T - bs.length : Nat) : Int), 0) := by
  have ht := h.tot
  rw [free_s h.disk, freeS_int, show freeS n (mkW (newX n) w) = T - bs.length by omega]

theorem kept_load : chains_Load_1 (((p1, p2), w, (c, u), newX n, []), k) = some (((p1, p2), w, (c, u), newX n, []), wid 76 m0', 0) := load1_s h.disk c u p1 p2 h.filed

theorem kept_lists : chains_Lists_1 (((p1, p2), w, (c, u), newX n, []), k) = some (((p1, p2), w, (c, u), newX n, []), bs, 0) := lists_s h.disk c u p1 p2 h.filed
end

/-! ### A file is given up -/

/-! ### Two files side by side -/

structure Two (w : Loo) (x y : Card) (bx bY mx my : List Int) : Prop where
  disk : Disk 1 400 (newX 400) w
  fx : Filed 400 (newX 400) w x (wid 76 mx) bx
  fy : Filed 400 (newX 400) w y (wid 76 my) bY
  tot : freeS 400 (mkW (newX 400) w) + bx.length + bY.length = 349
  cx : bx.length = nbM mx
  cy : bY.length = nbM my
  apart : ∀ b ∈ bx, b ∉ bY

def st3 (x y : Card) (w : Loo) (a b : List (List Int)) (mx my : List Int) (i : Int) : (Card × Card × (Bool × Int) × Loo × (Int × Int) × List Blk × Loo) × List (List Int) × List (List Int) × List Int × List Int × Int :=
  ((x, y, (false, 0), w, (0, -1), newX 400, []), a, b, mx, my, i)

end Go.Proofs.YtlbammfnkphajaaGreatDoor.Abs
