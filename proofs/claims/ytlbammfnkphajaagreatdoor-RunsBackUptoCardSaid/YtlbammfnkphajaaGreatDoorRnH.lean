/- Runs: the laws. -/
import Derived.Test.YtlbammfnkphajaaGreatDoorRnG
namespace Go.Proofs.YtlbammfnkphajaaGreatDoor.Abs
open Go
set_option linter.unusedVariables false
attribute [-simp] List.getD_eq_getElem?_getD

/-- A file on a new disk, and what it holds. -/
structure Kept (n T : Nat) (k0 : Card) (w : Loo) (k : Card) (l : Pg) (bs m : List Int) : Prop where
  disk : Disk 2 n (newX n) w
  filed : Filed n (newX n) w k l bs
  spans : Spans n m l
  ents : entries n m
  tot : freeS n (mkW (newX n) w) + bs.length = T
  cnt : bs.length = (pagesS l).length
  same : k.2.2.1 = k0.2.2.1 ∧ k.2.2.2.1 = k0.2.2.2.1

theorem spans_nil (n : Nat) : Spans n [] [] := ⟨trivial, (fun t ht => by cases ht), fun q => rfl⟩

theorem kept_new {n : Nat} (hr : 64 ≤ n ∧ n ≤ 400) : Kept n (n - 51) fresh (w0 n) fresh [] [] [] :=
  ⟨new_disk hr, fresh_filed, spans_nil n, (fun x hx => by cases hx), by rw [new_free hr]; rfl, rfl, rfl, rfl⟩

section
variable {n T : Nat} {k0 : Card} {w : Loo} {k : Card} {l : Pg} {bs m0' : List Int} (h : Kept n T k0 w k l bs m0') (c u : Int) (p1 : Bool) (p2 : Int)
include h

theorem kept_over (m : List Int) (hm : m.length ≤ 60000) (he : entries n m) (ho : overM m = true) : runs_Save (((p1, p2), w, (c, u), newX n, []), k, m) = some (((p1, p2), w, (c, u), newX n, []), zeroC, 12) := by
  rw [save_s h.disk c u p1 p2 h.filed m hm he, if_pos ho]

theorem kept_full (m : List Int) (hm : m.length ≤ 60000) (he : entries n m) (ho : overM m = false) (hf : T < (pagesS (spS m)).length) : runs_Save (((p1, p2), w, (c, u), newX n, []), k, m) = some (((p1, p2), w, (c, u), newX n, []), zeroC, 10) := by
  rw [save_s h.disk c u p1 p2 h.filed m hm he, ho, if_neg (c := false = true) (by decide), if_pos (by rw [h.tot]; exact hf)]

theorem kept_save (m : List Int) (hm : m.length ≤ 60000) (he : entries n m) (ho : overM m = false) (hf : (pagesS (spS m)).length ≤ T) : ∃ w' k' bs', runs_Save (((p1, p2), w, (c, u), newX n, []), k, m) = some (((p1, p2), w', (c, u), newX n, []), k', 0) ∧ Kept n T k0 w' k' (spS m) bs' m := by
  have hr := h.disk.room
  have hs := spS_is hr.2 (by omega) he ho
  obtain ⟨s1, s2, s3, s4, s5, s6, s7⟩ := save_ok h.disk h.filed hs he (by rw [h.tot]; exact hf)
  have ht := h.tot
  refine ⟨_, _, _, ?_, s1, s2, hs, he, by rw [s3]; omega, s3, h.same⟩
  rw [save_s h.disk c u p1 p2 h.filed m hm he, ho, if_neg (c := false = true) (by decide), if_neg (by omega)]

theorem kept_free : stock_Free ((p1, p2), w, (c, u), newX n, []) = some (((p1, p2), w, (c, u), newX n, []), ((T - bs.length : Nat) : Int), 0) := by
  have ht := h.tot
  rw [free_s h.disk, freeS_int, show freeS n (mkW (newX n) w) = T - bs.length by omega]

theorem kept_load : runs_Load_1 (((p1, p2), w, (c, u), newX n, []), k) = some (((p1, p2), w, (c, u), newX n, []), wideS m0', 0) := load1_s h.disk c u p1 p2 h.filed h.spans

theorem kept_lists : runs_Lists_1 (((p1, p2), w, (c, u), newX n, []), k) = some (((p1, p2), w, (c, u), newX n, []), bs, 0) := lists_s h.disk c u p1 p2 h.filed
end

/-! ### A file is given up -/

/-! ### Two files side by side -/

structure Two (w : Loo) (x y : Card) (lx ly : Pg) (bx bY mx my : List Int) : Prop where
  disk : Disk 2 400 (newX 400) w
  fx : Filed 400 (newX 400) w x lx bx
  fy : Filed 400 (newX 400) w y ly bY
  sx : Spans 400 mx lx
  sy : Spans 400 my ly
  tot : freeS 400 (mkW (newX 400) w) + bx.length + bY.length = 349
  cx : bx.length = (pagesS lx).length
  cy : bY.length = (pagesS ly).length
  apart : ∀ b ∈ bx, b ∉ bY

def st3 (x y : Card) (w : Loo) (a b : List (List Int)) (mx my : List Int) (i : Int) : (Card × Card × (Bool × Int) × Loo × (Int × Int) × List Blk × Loo) × List (List Int) × List (List Int) × List Int × List Int × Int :=
  ((x, y, (false, 0), w, (0, -1), newX 400, []), a, b, mx, my, i)

end Go.Proofs.YtlbammfnkphajaaGreatDoor.Abs
