/- The plain law of splitting. -/
import Derived.Test.YtldmeogadmgkiaaLawC
namespace Go.Proofs.Ytldmeogadmgkiaa.Abs
open Go

theorem enc_split : ∀ (k : Nat) (ws vs : List Int), enc ws vs = (enc (ws.take k) (vs.take k)).bind fun a => (enc (ws.drop k) (vs.drop k)).bind fun b => some (a ++ b)
  | 0, ws, vs => by
    simp [enc]
  | k + 1, [], vs => by simp [enc]
  | k + 1, w :: ws, [] => by simp [enc]
  | k + 1, w :: ws, v :: vs => by
    simp only [List.take_succ_cons, List.drop_succ_cons, enc]
    by_cases h : v < 0 ∨ v > lim w
    · rw [if_pos h, if_pos h]; rfl
    · rw [if_neg h, if_neg h, enc_split k ws vs]
      cases enc (ws.take k) (vs.take k) <;> cases enc (ws.drop k) (vs.drop k) <;> simp

theorem enc_len : ∀ (ws vs : List Int) (e : List Int), ws.all okW = true → enc ws vs = some e → ws.length = vs.length → (e.length : Int) = ws.sum
  | [], vs, e, _, h, _ => by
    simp [enc] at h; rw [h]; rfl
  | w :: ws, [], e, _, _, h => by simp at h
  | w :: ws, v :: vs, e, hok, h, hl => by
    simp only [List.all_cons, Bool.and_eq_true] at hok
    simp only [enc] at h
    split at h
    · cases h
    · simp only [Option.map_eq_some_iff] at h
      obtain ⟨e2, h2, rfl⟩ := h
      have := enc_len ws vs e2 hok.2 h2 (by simpa using hl)
      have hw := hok.1
      simp only [okW, Bool.or_eq_true, beq_iff_eq] at hw
      simp only [List.length_append, le_len, List.sum_cons]
      omega

theorem u8s_app (a b : List Int) : u8s (a ++ b) = u8s a ++ u8s b := by simp [u8s]

theorem wainwrightlaw01_MouldSplits_row (x0 x1 : List Int) (x2 : Int) (_ : wfD (.sl I) x0) (_ : wfD (.sl I) x1) (_ : wfD I x2) (hb : bulk (.sl I) x0 + bulk (.sl I) x1 + bulk I x2 ≤ 1048576) : wainwrightlaw01_MouldSplits (x0, x1, x2) = some true := by
  have h0 := ints_len x0
  have h1 := ints_len x1
  unfold wainwrightlaw01_MouldSplits
  dsimp only
  simp only [lives_is, Option.bind_some, mould_Write_is x0 x1 (by omega) (by omega)]
  rw [if_neg (by decide)]
  by_cases hc : x0.all okW = true ∧ x0.length = x1.length
  · cases he : enc x0 x1 with
    | none =>
      have hwr : wr x0 x1 = ([], 3) := by unfold wr; rw [if_pos hc, he]
      rw [hwr]
      rfl
    | some e =>
      have hwr : wr x0 x1 = (u8s e, 0) := by unfold wr; rw [if_pos hc, he]
      rw [hwr]
      dsimp only
      rw [if_neg (by decide)]
      have hu : 0 ≤ IntKind.u64.wrap x2 := by
        simp [IntKind.wrap, IntKind.signed, IntKind.bits]
        omega
      have hn : IntKind.u64.wrap (IntKind.i64.wrap ((x0.length : Int) + 1)) = (x0.length : Int) + 1 := by
        rw [wrap64 (by omega) (by omega), wrapu64 (by omega) (by omega)]
      have hm0 := Int.emod_nonneg (IntKind.u64.wrap x2) (show (x0.length : Int) + 1 ≠ 0 by omega)
      have hm1 := Int.emod_lt_of_pos (IntKind.u64.wrap x2) (show 0 < (x0.length : Int) + 1 by omega)
      have hk : IntKind.i64.wrap (Int.tmod (IntKind.u64.wrap x2) ((x0.length : Int) + 1)) = IntKind.u64.wrap x2 % ((x0.length : Int) + 1) := by
        rw [Int.tmod_eq_emod_of_nonneg hu, wrap64 (by omega) (by omega)]
      rw [hn, hk]
      generalize IntKind.u64.wrap x2 % ((x0.length : Int) + 1) = m at hm0 hm1
      obtain ⟨k, rfl⟩ : ∃ k : Nat, m = (k : Int) := ⟨m.toNat, by omega⟩
      simp only [Int.toNat_natCast]
      have hsp := enc_split k x0 x1
      rw [he] at hsp
      have hokt : (x0.take k).all okW = true := List.all_eq_true.2 fun x hx => List.all_eq_true.1 hc.1 x (List.mem_of_mem_take hx)
      have hokd : (x0.drop k).all okW = true := List.all_eq_true.2 fun x hx => List.all_eq_true.1 hc.1 x (List.mem_of_mem_drop hx)
      cases ha : enc (x0.take k) (x1.take k) with
      | none => rw [ha] at hsp; cases hsp
      | some a =>
        cases hb2 : enc (x0.drop k) (x1.drop k) with
        | none => rw [ha, hb2] at hsp; cases hsp
        | some b =>
          rw [ha, hb2] at hsp
          simp only [Option.bind_some, Option.some.injEq] at hsp
          have hw1 : wr (x0.take k) (x1.take k) = (u8s a, 0) := by unfold wr; rw [if_pos ⟨hokt, by simp [hc.2]⟩, ha]
          have hw2 : wr (x0.drop k) (x1.drop k) = (u8s b, 0) := by unfold wr; rw [if_pos ⟨hokd, by simp [hc.2]⟩, hb2]
          have hla := enc_len _ _ _ hokt ha (by simp [hc.2])
          have hlb := enc_len _ _ _ hokd hb2 (by simp [hc.2])
          have hsa := sum_bound _ hokt
          have hsb := sum_bound _ hokd
          have hl2 := hc.2
          rw [mould_Write_is (x0.take k) (x1.take k) (by simp; omega) (by simp; omega), mould_Write_is (x0.drop k) (x1.drop k) (by simp; omega) (by simp; omega), hw1, hw2]
          simp only [Option.bind_some]
          rw [if_neg (by omega), if_pos (by omega), if_pos (by omega), if_pos (by omega), if_pos (by omega), if_pos (by decide), if_pos (by decide)]
          simp only [List.length_take, List.length_drop] at hsa hsb
          rw [if_pos (by simp [u8s]; omega), hsp, u8s_app]
          simp
  · have hwr : wr x0 x1 = ([], 1) := by unfold wr; rw [if_neg hc]
    rw [hwr]
    rfl

end Go.Proofs.Ytldmeogadmgkiaa.Abs
