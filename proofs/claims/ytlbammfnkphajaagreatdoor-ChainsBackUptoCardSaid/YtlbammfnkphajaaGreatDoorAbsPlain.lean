/- Small laws of numbers and loops, for the plain laws. -/
import Derived.Test.YtlbammfnkphajaaGreatDoorAbsCode
namespace Go.Proofs.YtlbammfnkphajaaGreatDoor.Abs
open Go

theorem wrap64 {n : Int} (h1 : -9223372036854775808 ≤ n) (h2 : n < 9223372036854775808) : IntKind.i64.wrap n = n := by
  simp [IntKind.wrap, IntKind.signed, IntKind.bits]
  omega

theorem wrapu8 (n : Int) : IntKind.u8.wrap n = n % 256 := by
  simp [IntKind.wrap, IntKind.signed, IntKind.bits]

theorem wrapu64 {n : Int} (h1 : 0 ≤ n) (h2 : n < 18446744073709551616) : IntKind.u64.wrap n = n := by
  simp [IntKind.wrap, IntKind.signed, IntKind.bits]
  omega

theorem loopO_inl {σ τ : Type} {f : σ → Option (σ ⊕ τ)} {s s' : σ} (h : f s = some (.inl s')) : loopO f s = loopO f s' := by rw [loopO_eq, h]
theorem loopO_inr {σ τ : Type} {f : σ → Option (σ ⊕ τ)} {s : σ} {r : τ} (h : f s = some (.inr r)) : loopO f s = some r := by rw [loopO_eq, h]

theorem room {n b : Nat} (hb : 0 < b) (h : n * b ≤ 140737488355328) : roomOk n b := ⟨hb, h⟩

theorem getD_lt {α : Type} {l : List α} {i : Nat} {d : α} (h : i < l.length) : l.getD i d = l[i] := by simp [List.getD, h]

theorem i64_wf {n : Int} (h : (Lit.int .i64 n).wf = true) : -9223372036854775808 ≤ n ∧ n < 9223372036854775808 := by
  simp only [Lit.wf, IntKind.min, IntKind.max, IntKind.signed, IntKind.bits, Bool.and_eq_true, decide_eq_true_eq] at h
  simp at h
  omega
theorem or64 {x y : Nat} (hx : x < 9223372036854775808) (hy : y < 9223372036854775808) : bitsOp .or .i64 (x : Int) (y : Int) = ((x ||| y : Nat) : Int) := by
  have h : x ||| y < 2 ^ 63 := Nat.or_lt_two_pow (by simpa using hx) (by simpa using hy)
  have e1 : (BitVec.ofInt IntKind.i64.bits (x : Int) ||| BitVec.ofInt IntKind.i64.bits (y : Int)).toNat = x ||| y := by
    show (BitVec.ofInt 64 (x : Int) ||| BitVec.ofInt 64 (y : Int)).toNat = x ||| y
    rw [BitVec.toNat_or, BitVec.toNat_ofInt, BitVec.toNat_ofInt]
    have a1 : ((x : Int) % ((2 ^ 64 : Nat) : Int)).toNat = x := by
      rw [Int.emod_eq_of_lt (by omega) (by simp; omega)]; rfl
    have a2 : ((y : Int) % ((2 ^ 64 : Nat) : Int)).toNat = y := by
      rw [Int.emod_eq_of_lt (by omega) (by simp; omega)]; rfl
    rw [a1, a2]
  simp only [bitsOp, e1]
  exact wrap64 (by omega) (by omega)

end Go.Proofs.YtlbammfnkphajaaGreatDoor.Abs
