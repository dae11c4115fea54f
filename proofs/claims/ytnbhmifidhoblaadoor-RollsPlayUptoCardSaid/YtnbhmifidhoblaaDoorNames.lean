/- paths.Right's closure and strings.ContainsFunc at strings of signs alone. -/
import Derived.Test.YtnbhmifidhoblaaDoorTrim
import Derived.Lib.OthersKept
import Derived.Deep.LoopGhost
import Derived.Shelf.Strings.Runes
namespace Go.Proofs.YtnbhmifidhoblaaDoor
open Go Go.Proofs Go.RowKit Go.Shelf Go.Lib

theorem below_drewN2 {B : Nat} {a w : World} (h : Below B a w) (q : Nat) : Below B a (w.drewN q) := ⟨h.os, h.tape, h.output, h.size, h.block⟩

theorem sign_at (c : UInt8) (hc : signsB.data.toList.contains c = true) : c.toNat < 128 ∧ decide (0 ≤ Lib.indexByte signsB.data.toList ((c.toNat : Int).toNat.toUInt8)) = true := by
  have : ∀ n : Fin 256, signsB.data.toList.contains (UInt8.ofNat n.1) = true → (UInt8.ofNat n.1).toNat < 128 ∧ decide (0 ≤ Lib.indexByte signsB.data.toList (((UInt8.ofNat n.1).toNat : Int).toNat.toUInt8)) = true := by decide +kernel
  have h2 := this ⟨c.toNat, c.toNat_lt⟩
  simp only [UInt8.ofNat_toNat] at h2
  exact h2 hc

set_option maxHeartbeats 8000000 in
set_option maxRecDepth 1000000 in
theorem closure_at (c : UInt8) (hc : signsB.data.toList.contains c = true) (w : World) :
    Calls Tryd.prog 51 #[.int .i32 (c.toNat : Int)] w fun e w' => e = .returned (.bool false) ∧ w' = w := by
  have L := lays160
  obtain ⟨h1, h2⟩ := sign_at c hc
  have hR := Any.strings_ContainsRune_ascii (P := Tryd.prog) (ρ := lays160_ren) { L with } signsB (c.toNat : Int) w (by omega) (by omega)
  rw [h2] at hR
  change Calls Tryd.prog 52 #[.string signsB, .int .i32 (c.toNat : Int)] w _ at hR
  clear L h2
  have e52 : ∀ args w, (callFunc 52 args).run Tryd.prog w = .ok (.enter 52 args) w := enters_of Tryd.func52 (by kernel_rfl) rfl
  go_enter Tryd.func51, Tryd.ntmps51
  go_wp2_with (go_at_fn 52; refine hR.mono ?_; rintro e w' ⟨rfl, hw⟩; rw [hw])
  go_ret
  exact ⟨rfl, rfl⟩

set_option maxHeartbeats 8000000 in
set_option maxRecDepth 1000000 in
theorem indexFunc_at (s : ByteArray) (hs : s.data.toList.all (fun b => signsB.data.toList.contains b) = true) (w : World) :
    Calls Tryd.prog 85 #[.string s, .func (.func 51) #[] #[], .bool true] w fun e w' => e = .returned (.int .i64 (-1)) ∧ Below w.heap.size w w' := by
  have e51 : ∀ args w, (callFunc 51 args).run Tryd.prog w = .ok (.enter 51 args) w := enters_of Tryd.func51 (by kernel_rfl) rfl
  go_enter Tryd.func85, Tryd.ntmps85
  go_wp2
  go_loopg [] s.size (fun gf wx => ∃ pos : Nat, wx.heap[w.heap.size]? = some (.stringIter s pos) ∧ Below w.heap.size w wx ∧ s.size ≤ pos + gf)
  case atStart => exact ⟨0, World.iter_heap w s 0, (Below.refl _ w).alloc (Nat.le_refl _) _, by omega⟩
  case round =>
    obtain ⟨pos, hit, hbw, hfu⟩ := hrel
    by_cases hps : pos < s.size
    · obtain ⟨g', rfl⟩ : ∃ g', gk = g' + 1 := ⟨gk - 1, by omega⟩
      have hsg : signsB.data.toList.contains (s[pos]'hps) = true := by
        refine List.all_eq_true.1 hs _ ?_
        have : s[pos]'hps ∈ s.data := Array.getElem_mem (xs := s.data) hps
        exact Array.mem_toList_iff.2 this
      have hnx : ∀ ty, (Instr.next (.pointer (some ⟨w.heap.size, 0, none⟩)) true ty).run Tryd.prog wr = _ := fun ty => Lib.run_next_ascii_at wr w.heap.size s pos ty hit hps (sign_at _ hsg).1
      have hit2 := Lib.iterAt_heap wr w.heap.size s pos (pos + 1) hit
      have hbw2 := Lib.below_iterAt hbw (k := w.heap.size) (Nat.le_refl _) s (pos + 1)
      obtain ⟨W, hWd⟩ : ∃ W, wr.iterAt w.heap.size s (pos + 1) = W := ⟨_, rfl⟩
      rw [hWd] at hnx hit2 hbw2
      obtain ⟨C, hC⟩ : ∃ C, s[pos]'hps = C := ⟨_, rfl⟩
      rw [hC] at hnx hsg
      have cS := closure_at C hsg W
      go_wp2_with (go_at_fn 51; refine cS.mono ?_; rintro e W' ⟨rfl, hw⟩; rw [hw])
      go_roundg g'
      case measure => omega
      case rel => exact ⟨pos + 1, hit2, hbw2, by omega⟩
    · have hnx : ∀ ty, (Instr.next (.pointer (some ⟨w.heap.size, 0, none⟩)) true ty).run Tryd.prog wr = _ := fun ty => Lib.run_next_end_at wr w.heap.size s pos ty hit hps
      go_wp2
      go_ret
      exact ⟨rfl, hbw⟩

set_option maxHeartbeats 8000000 in
set_option maxRecDepth 1000000 in
theorem containsFunc_at (s : ByteArray) (hs : s.data.toList.all (fun b => signsB.data.toList.contains b) = true) (w : World) :
    Calls Tryd.prog 50 #[.string s, .func (.func 51) #[] #[]] w fun e w' => e = .returned (.bool false) ∧ Below w.heap.size w w' := by
  have h74 : Calls Tryd.prog 74 #[.string s, .func (.func 51) #[] #[]] w fun e w' => e = .returned (.int .i64 (-1)) ∧ Below w.heap.size w w' := by
    have e85 : ∀ args w, (callFunc 85 args).run Tryd.prog w = .ok (.enter 85 args) w := enters_of Tryd.func85 (by kernel_rfl) rfl
    go_enter Tryd.func74, Tryd.ntmps74
    go_wp2_with (go_at_fn 85; refine (indexFunc_at s hs w).mono ?_; rintro e W' ⟨rfl, hw⟩)
    go_ret
    exact ⟨rfl, hw⟩
  have e74 : ∀ args w, (callFunc 74 args).run Tryd.prog w = .ok (.enter 74 args) w := enters_of Tryd.func74 (by kernel_rfl) rfl
  go_enter Tryd.func50, Tryd.ntmps50
  go_wp2_with (go_at_fn 74; refine h74.mono ?_; rintro e W' ⟨rfl, hw⟩)
  go_ret
  exact ⟨rfl, hw⟩
end Go.Proofs.YtnbhmifidhoblaaDoor
