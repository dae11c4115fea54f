/- (*slab.Slab).Image: a contract by hand: own walk of its loop over a map. -/
import Derived.Test.YtiodpeekbeahlaaGreatDoorLayI
import Derived.Test.YtiodpeekbeahlaaGreatDoorAbsFn
import Derived.Maps.RangeWalk
import Derived.Deep.LoopGhost
import Derived.WalkKit
import Derived.Below
namespace Go.Proofs.YtiodpeekbeahlaaGreatDoor
open Go Go.Proofs Go.RowKit Go.Shelf Go.Maps
open Go.ChangeMaps (setBlock)

theorem pushed (seen : Array Nat) (x : Nat) : ∀ b, (seen.push x).contains b = true ↔ seen.contains b = true ∨ b = x := fun b => by
  rw [Array.contains_iff_mem, Array.contains_iff_mem, Array.mem_push]

/-- What the image holds when some entries have been met. -/
def Seen (xs : List ByteArray) (ms : Array MapEntry) (seen : Array Nat) (ys : List ByteArray) : Prop :=
  ys.length = xs.length ∧ ∀ i, i < xs.length → (∃ e ∈ ms.toList, seen.contains e.born = true ∧ e.key = .int .i64 (i : Int) ∧ e.val = .string (ys.getD i .empty)) ∨
    ((∀ e ∈ ms.toList, seen.contains e.born = true → e.key ≠ .int .i64 (i : Int)) ∧ ys.getD i .empty = xs.getD i .empty)

theorem clone_at (w : World) (a : Option Addr) (cap : Nat) (xs : List ByteArray) (hbig : xs.length ≤ 1000000)
    (ha : xs ≠ [] → ∃ bf of, a = some ⟨bf, of, none⟩ ∧ ∀ j, j < xs.length → w.cell? ⟨bf, of + j, none⟩ = some (.string (xs.getD j ByteArray.empty))) :
    Calls Tryz.prog 79 #[.slice a xs.length cap] w fun e w' => ∃ v', e = .returned v' ∧ w'.ownsRow w.heap.size 9 1 v' xs.length (xs.map Value.string) ∧ Below w.heap.size w w' := by
  cases a with
  | none =>
    have h0 : xs = [] := by
      by_cases h : xs = []
      · exact h
      · obtain ⟨_, _, h1, _⟩ := ha h; cases h1
    subst h0
    refine (AnyG.slices_Clone_string_nil cloneA 0 cap w).mono ?_
    rintro e w' ⟨rfl, rfl⟩
    exact ⟨_, rfl, World.ownsRow_nil _ _ _ _, Below.refl _ _⟩
  | some a =>
    by_cases h0 : xs = []
    · subst h0
      refine (AnyG.slices_Clone_string_zero cloneA a cap w).mono ?_
      rintro e w' ⟨v', rfl, h1, _, h2⟩
      exact ⟨v', rfl, h1, h2⟩
    · obtain ⟨bf, of, h1, h2⟩ := ha h0
      cases h1
      refine (AnyG.slices_Clone_string cloneA bf of xs.length cap xs w (Nat.le_refl _) (by omega) h2).mono ?_
      rintro e w' ⟨v', rfl, h3, _, h4⟩
      rw [List.take_length] at h3
      exact ⟨v', rfl, h3, h4⟩

set_option maxHeartbeats 8000000 in
set_option maxRecDepth 1000000 in
theorem image_walk (w : World) (bb : Nat) (a : Option Addr) (cap : Nat) (xs : List ByteArray) (bm : Nat) (ms : Array MapEntry) (clock : Nat) (hbig : xs.length ≤ 1000000)
    (h0 : w.cell? ⟨bb, 0, none⟩ = some (.slice a xs.length cap)) (h1 : w.cell? ⟨bb, 1, none⟩ = some (.map (some bm)))
    (ha : xs ≠ [] → ∃ bf of, a = some ⟨bf, of, none⟩ ∧ ∀ j, j < xs.length → w.cell? ⟨bf, of + j, none⟩ = some (.string (xs.getD j ByteArray.empty)))
    (hb : w.heap[bm]? = some (.map ms clock)) (hst : MapKept.Stamped ms clock)
    (hkeys : ∀ e ∈ ms.toList, ∃ k : Nat, k < xs.length ∧ e.key = .int .i64 (k : Int) ∧ ∃ s, e.val = .string s) :
    Calls Tryz.prog 24 #[.pointer (some ⟨bb, 0, none⟩)] w fun e w' => ∃ v' ys, e = .returned v' ∧ (∃ seen, (∀ x ∈ ms.toList, seen.contains x.born = true) ∧ Seen xs ms seen ys) ∧ w'.ownsRow w.heap.size 9 1 v' xs.length (ys.map Value.string) ∧ Below w.heap.size w w' := by
  have hC := clone_at w a cap xs hbig ha
  have e29 : ∀ args w, (callFunc 79 args).run Tryz.prog w = .ok (.enter 79 args) w := enters_of Tryz.func79 (by kernel_rfl) rfl
  have hrg : ∀ W : World, W.heap[bm]? = some (.map ms clock) → (Instr.range 124 (.map (some bm))).run Tryz.prog W = .ok (.pointer (some ⟨W.heap.size, 0, none⟩)) (W.alloc (.mapIter (some bm) clock #[] clock)) := fun W hW => run_range_map W 124 _ _ bm ms clock Tryz.underlying124 hW
  have hbl : bm < w.heap.size := by
    rcases Nat.lt_or_ge bm w.heap.size with h | h
    · exact h
    · rw [Array.getElem?_eq_none h] at hb; cases hb
  go_enter Tryz.func24, Tryz.ntmps24
  have hbbl : bb < w.heap.size := World.block_lt_of_cell? w (a := ⟨bb, 1, none⟩) h1
  go_wp2_with (go_at_fn 79; refine hC.mono ?_; rintro e w1 ⟨v', rfl, hrow, hbw⟩; have hr1 := hrg w1 ((hbw.block bm hbl).trans hb); have h1' : w1.cell? ⟨bb, 1, none⟩ = some (.map (some bm)) := (hbw.cell (p := ⟨bb, 1, none⟩) hbbl).trans h1)
  have hb1 : w1.heap[bm]? = some (.map ms clock) := (hbw.block bm hbl).trans hb
  have hbl1 : bm < w1.heap.size := Nat.lt_of_lt_of_le hbl hbw.size
  go_loopg [] (leftOf ms #[]).size (fun gf wx => ∃ (seen : Array Nat) (c0 : Nat) (ys : List ByteArray), wx.heap[w1.heap.size]? = some (.mapIter (some bm) clock seen c0) ∧ clock ≤ c0 ∧ wx.heap[bm]? = some (.map ms clock) ∧ wx.ownsRow w.heap.size 9 1 v' xs.length (ys.map Value.string) ∧ Seen xs ms seen ys ∧ Below w.heap.size w wx ∧ (leftOf ms seen).size ≤ gf)
  case atStart =>
    refine ⟨#[], clock, xs, heap_alloc_new w1 _, Nat.le_refl _, (heap_alloc_old w1 _ hbl1).trans hb1, ?_, ⟨rfl, fun i hi => .inr ⟨fun e _ h => by simp at h, rfl⟩⟩, hbw.alloc hbw.size _, Nat.le_refl _⟩
    exact hrow.kept (World.grownBy_alloc w1 _ none) (by
      by_cases hv : v'.ownBlock = none
      · exact .inl hv
      · exact .inr hv)
  case round =>
    obtain ⟨seen, c0, ys, hit, hc0, hbm, hrow2, hseen, hbw2, hfu⟩ := hrel
    rcases run_next_at (P := Tryz.prog) wr 0 w1.heap.size bm clock c0 seen ms clock hit hbm hst.1 hc0 with ⟨hz, hnx⟩ | ⟨e, he, w2, hw2, hnx⟩
    · go_wp2
      go_ret
      exact ⟨v', ys, rfl, ⟨seen, all_seen ms seen hz, hseen⟩, hrow2, hbw2⟩
    · obtain ⟨hem, hes⟩ := mem_left he
      obtain ⟨k, hk, hkey, s, hval⟩ := hkeys e hem
      have hrb : bm ≠ w1.heap.size := by omega
      obtain ⟨W, hW⟩ : ∃ W, setBlock w2 w1.heap.size (.mapIter (some bm) clock (seen.push e.born) clock) = W := ⟨_, rfl⟩
      have hrl : w1.heap.size < wr.heap.size := by
        rcases Nat.lt_or_ge w1.heap.size wr.heap.size with h | h
        · exact h
        · rw [Array.getElem?_eq_none h] at hit; cases hit
      have hw2s : w2.heap = wr.heap := by rcases hw2 with rfl | rfl <;> rfl
      have hWr : W.heap[w1.heap.size]? = some (.mapIter (some bm) clock (seen.push e.born) clock) := by
        rw [← hW]; simp [setBlock, hw2s, hrl]
      have hWo : ∀ j, j ≠ w1.heap.size → W.heap[j]? = wr.heap[j]? := fun j hj => by
        rw [← hW]; simp [setBlock, hw2s, Ne.symm hj]
      have hen := run_entry_at (P := Tryz.prog) W w1.heap.size bm clock seen ms clock e hWr ((hWo bm hrb).trans hbm) hem hst.2.1
      rw [hW, hkey, hval] at hnx
      rw [hkey, hval] at hen
      rcases hrow2.2 with ⟨_, hz⟩ | ⟨g, cap', cur, rfl, hg0, hg, hcap, hcm, hcs, htake⟩
      · omega
      have hgr : g ≠ w1.heap.size := by
        intro h; rw [h, hit] at hg; cases hg
      have hgW : W.heap[g]? = some (.cells cur 9 (0, 0)) := (hWo g hgr).trans hg
      have hck : W.cell? ⟨g, k, none⟩ = some (.string (ys.getD k ByteArray.empty)) := by
        have h5 := congrArg (fun l => l[k]?) htake
        have hyk : k < ys.length := by have := hseen.1; omega
        simp only [Nat.mul_one, List.getElem?_take, hk, if_true, List.getElem?_map, Array.getElem?_toList] at h5
        rw [List.getElem?_eq_getElem hyk] at h5
        simp only [World.cell?, hgW]
        rw [h5]
        simp [List.getD, hyk]
      have hfk : W.frozen? ⟨g, k, none⟩ = false := by
        simp [World.frozen?, hgW]
      have hk0 : (0 : Int) ≤ (k : Int) := by omega
      have hk1 : (k : Int) < (xs.length : Int) := by omega
      obtain ⟨g', rfl⟩ : ∃ g', gk = g' + 1 := ⟨gk - 1, by
        have := left_shrinks ms seen e he
        omega⟩
      have hsh := left_shrinks ms seen e he
      have hWm : W.heap[bm]? = some (.map ms clock) := (hWo bm hrb).trans hbm
      have hbW : Below w.heap.size w W := by
        refine hbw2.trans ⟨?_, ?_, ?_, ?_, fun j hj => hWo j (by have := hbw.size; omega)⟩
        · rw [← hW]; rcases hw2 with rfl | rfl <;> rfl
        · rw [← hW]; rcases hw2 with rfl | rfl <;> rfl
        · rw [← hW]; rcases hw2 with rfl | rfl <;> rfl
        · rw [← hW]; simp [setBlock, hw2s]
      have hgb : g ≠ bm := by
        intro h; rw [h, hWm] at hgW; cases hgW
      have hyl := hseen.1
      have hbody : ∀ W2, W.setCell ⟨g, k, none⟩ (.string s) = W2 → (∃ (seen : Array Nat) (c0 : Nat) (ys : List ByteArray), W2.heap[w1.heap.size]? = some (.mapIter (some bm) clock seen c0) ∧ clock ≤ c0 ∧ W2.heap[bm]? = some (.map ms clock) ∧ W2.ownsRow w.heap.size 9 1 (.slice (some ⟨g, 0, none⟩) xs.length cap') xs.length (ys.map Value.string) ∧ Seen xs ms seen ys ∧ Below w.heap.size w W2 ∧ (leftOf ms seen).size ≤ g') := by
        rintro W2 rfl
        have hgl : k < cur.size := by omega
        refine ⟨seen.push e.born, clock, ys.set k s, (heap_setCell_other W _ _ _ (Ne.symm hgr)).trans hWr, Nat.le_refl _, (heap_setCell_other W _ _ _ (Ne.symm hgb)).trans hWm, ?_, ?_, hbW.setCell (p := ⟨g, k, none⟩) hg0 _, by omega⟩
        · refine ⟨by simp [hyl], .inr ⟨g, cap', cur.setIfInBounds k (.string s), rfl, hg0, heap_setCell_same W g k cur 9 _ hgW, hcap, hcm, by simpa using hcs, ?_⟩⟩
          simp only [Nat.mul_one] at htake ⊢
          rw [Array.toList_setIfInBounds, List.take_set, htake, ← List.map_set]
        · refine ⟨by simp [hyl], fun i hi => ?_⟩
          have hpc := pushed seen e.born
          by_cases hik : k = i
          · subst hik
            refine .inl ⟨e, hem, (hpc _).2 (.inr rfl), hkey, ?_⟩
            rw [hval, List.getD_eq_getElem?_getD, List.getElem?_set_self (by omega)]
            rfl
          · have hgd : (ys.set k s).getD i ByteArray.empty = ys.getD i ByteArray.empty := by simp [List.getD, List.getElem?_set, hik]
            rw [hgd]
            rcases hseen.2 i hi with ⟨e1, q1, q2, q3, q4⟩ | ⟨q1, q2⟩
            · exact .inl ⟨e1, q1, (hpc _).2 (.inl q2), q3, q4⟩
            · refine .inr ⟨fun e1 r1 r2 r3 => ?_, q2⟩
              rcases (hpc _).1 r2 with r2 | r2
              · exact q1 e1 r1 r2 r3
              · have hee : e1 = e := by
                  have hp := hst.2.1
                  unfold List.Nodup at hp
                  rw [List.pairwise_map, List.pairwise_iff_getElem] at hp
                  obtain ⟨i1, hi1, rfl⟩ := List.getElem_of_mem r1
                  obtain ⟨i2, hi2, he2⟩ := List.getElem_of_mem hem
                  rcases Nat.lt_trichotomy i1 i2 with q | q | q
                  · exact absurd (by rw [he2]; exact r2) (hp i1 i2 hi1 hi2 q)
                  · subst q; exact he2
                  · exact absurd (by rw [he2]; exact r2.symm) (hp i2 i1 hi2 hi1 q)
                rw [hee, hkey] at r3
                simp only [Value.int.injEq, true_and] at r3
                exact hik (by omega)
      clear hit hbm hrow2 hW hseen hbw2 hfu hsh hWo hWm hbW hWr htake hgW hg
      go_wp2
      go_roundg g'
      case measure => omega
      case rel => exact hbody _ rfl
end Go.Proofs.YtiodpeekbeahlaaGreatDoor
