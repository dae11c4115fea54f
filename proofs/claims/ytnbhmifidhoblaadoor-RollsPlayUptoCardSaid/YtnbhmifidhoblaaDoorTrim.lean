/- strings.Trim at the signs of a name: own walk over three contracts of the library. -/
import Derived.Test.YtnbhmifidhoblaaDoorLay
import Derived.WalkKit
namespace Go.Proofs.YtnbhmifidhoblaaDoor
open Go Go.Proofs Go.RowKit Go.Shelf Go.Lib

abbrev signsB : ByteArray := ⟨#[97, 98, 99, 100, 101, 102, 103, 104, 105, 106, 107, 108, 109, 110, 111, 112, 113, 114, 115, 116, 117, 118, 119, 120, 121, 122, 48, 49, 50, 51, 52, 53, 54, 55, 56, 57, 46, 45, 95]⟩

/-- The world when the set has been made and laid into the function's own variable. -/
abbrev setW (w : World) : World := (w.alloc (.cells (Lib.setCells signsB.data.toList) 90)).alloc (.cells (Lib.setCells signsB.data.toList) 90)

theorem ascii_all {l : List UInt8} (h : l.all (fun b => decide (b.toNat < 128)) = true) : ∀ (j : Nat) (b : UInt8), l[j]? = some b → b.toNat < 128 := fun j b hj => by
  have := List.all_eq_true.1 h b (List.mem_of_getElem? hj)
  simpa using this

set_option maxHeartbeats 8000000 in
set_option maxRecDepth 1000000 in
theorem trim_at (s : ByteArray) (w : World) (h0 : 0 < s.size) (hs : s.size ≤ 9223372036854775807) :
    Calls Tryd.prog 49 #[.string s, .string signsB] w fun e w' => e = .returned (.string ⟨(Lib.trimS s.data.toList signsB.data.toList).toArray⟩) ∧ ∃ q, w' = (setW w).drewN q := by
  have L := lays160
  have hz : (Tryd.prog.info? 90).map (fun i => (i.zero, i.size)) = some (some (.agg (Array.replicate 256 (.bool false))), 256) := by kernel_rfl
  have hi : (Tryd.prog.info? 90).map (·.size) = some 256 := by kernel_rfl
  have hv : ∀ w, (zeroValue 90).run Tryd.prog w = .ok (.agg (Array.replicate 256 (.bool false))) w := fun w => Tryd.zeroValue90 w
  have hM := Any.strings_makeASCIISet (P := Tryd.prog) { L with } hv hi signsB w (by decide) (ascii_all (by decide))
  change Calls Tryd.prog 69 #[.string signsB] w _ at hM
  change Calls Tryd.prog 69 #[.string signsB] w (fun e w' => e = .returned (.tuple #[.agg (Lib.setCells signsB.data.toList), .bool true]) ∧ w' = w.alloc (.cells (Lib.setCells signsB.data.toList) 90)) at hM
  have hemps : s.toList.isEmpty = false := by
    rw [Lib.toList_data]
    cases h : s.data.toList with
    | nil => have := Lib.size_eq s; rw [h, List.length_nil] at this; omega
    | cons _ _ => rfl
  have hsc : (storeCells ⟨w.heap.size + 1, 0, none⟩ (Lib.setCells signsB.data.toList).toList 0).run Tryd.prog ((w.alloc (.cells (Lib.setCells signsB.data.toList) 90)).alloc (.cells (Array.replicate 256 (.bool false)) 90)) = .ok () (setW w) := by
    have := run_storeCells_new (P := Tryd.prog) (w.alloc (.cells (Lib.setCells signsB.data.toList) 90)) 90 (Array.replicate 256 (.bool false)) (Lib.setCells signsB.data.toList) (by rw [Lib.setCells_size]; exact hi) (by rw [Lib.setCells_size, Array.size_replicate]) (Lib.setCells_one _)
    simpa using this
  have hat : ∀ (q : Nat) (x : UInt8), ((setW w).drewN q).cell? ⟨w.heap.size + 1, x.toNat, none⟩ = some (.bool (signsB.data.toList.contains x)) := fun q x => by
    have : (setW w).cell? ⟨w.heap.size + 1, x.toNat, none⟩ = some (.bool (signsB.data.toList.contains x)) := by
      rw [World.cell?_alloc_at _ _ _ _ (by simp), Lib.setCells_at]
    simpa using this
  have hR := fun (W : World) (h : ∀ x : UInt8, W.cell? ⟨w.heap.size + 1, x.toNat, none⟩ = some (.bool (signsB.data.toList.contains x))) => Any.strings_trimRightASCII (P := Tryd.prog) (ρ := lays160_ren) { L with } s (w.heap.size + 1) signsB.data.toList W hs h
  have hL := fun (t : ByteArray) (W : World) (h : ∀ x : UInt8, W.cell? ⟨w.heap.size + 1, x.toNat, none⟩ = some (.bool (signsB.data.toList.contains x))) => Any.strings_trimLeftASCII (P := Tryd.prog) (ρ := lays160_ren) { L with } t (w.heap.size + 1) signsB.data.toList W h
  have hsz := Lib.setCells_size signsB.data.toList
  have HC : Aside (∀ (q : Nat) (x : UInt8), ((setW w).drewN q).cell? ⟨w.heap.size + 1, x.toNat, none⟩ = some (.bool (signsB.data.toList.contains x))) := hat
  clear hat
  have HR : Aside (∀ (W : World), (∀ x : UInt8, W.cell? ⟨w.heap.size + 1, x.toNat, none⟩ = some (.bool (signsB.data.toList.contains x))) → Calls Tryd.prog 71 #[.string s, .pointer (some ⟨w.heap.size + 1, 0, none⟩)] W fun e w' => e = .returned (.string ⟨(Lib.trimRightS s.data.toList signsB.data.toList).toArray⟩) ∧ w' = W) := hR
  clear hR
  have HL : Aside (∀ (t : ByteArray) (W : World), (∀ x : UInt8, W.cell? ⟨w.heap.size + 1, x.toNat, none⟩ = some (.bool (signsB.data.toList.contains x))) → Calls Tryd.prog 70 #[.string t, .pointer (some ⟨w.heap.size + 1, 0, none⟩)] W fun e w' => e = .returned (.string ⟨(Lib.trimLeftS t.data.toList signsB.data.toList).toArray⟩) ∧ w' = W) := hL
  clear hL L hz
  have e69 : ∀ args w, (callFunc 69 args).run Tryd.prog w = .ok (.enter 69 args) w := enters_of Tryd.func69 (by kernel_rfl) rfl
  have e70 : ∀ args w, (callFunc 70 args).run Tryd.prog w = .ok (.enter 70 args) w := enters_of Tryd.func70 (by kernel_rfl) rfl
  have e71 : ∀ args w, (callFunc 71 args).run Tryd.prog w = .ok (.enter 71 args) w := enters_of Tryd.func71 (by kernel_rfl) rfl
  go_enter Tryd.func49, Tryd.ntmps49
  go_wp2_with (go_at_fn 69; refine hM.mono ?_; rintro e w' ⟨rfl, hw⟩; rw [hw])
  refine (HR.out (setW w) (HC.out 0)).mono ?_
  rintro e w' ⟨rfl, hw⟩
  rw [hw]
  go_wp2_with (go_at_fn 70; refine (HL.out _ _ (HC.out 0)).mono ?_; rintro e w' ⟨rfl, hw⟩; rw [hw])
  go_ret
  exact ⟨rfl, 0, rfl⟩
end Go.Proofs.YtnbhmifidhoblaaDoor
