/- The plain law of there and back. -/
import Derived.Test.YtldmeogadmgkiaaLawD
namespace Go.Proofs.Ytldmeogadmgkiaa.Abs
open Go

theorem lim_pow (w : Int) (hw : okW w = true) : lim w = ((256 ^ w.toNat : Nat) : Int) - 1 := by
  simp only [okW, Bool.or_eq_true, beq_iff_eq] at hw
  rcases hw with (h | h) | h <;> subst h <;> decide

theorem u8_of (v : Int) (h : 0 ≤ v) : (UInt8.ofNat (v % 256).toNat).toNat = (v % 256).toNat := by
  rw [UInt8.toNat_ofNat']
  exact Nat.mod_eq_of_lt (by omega)

theorem val_le : ∀ (n : Nat) (v : Int), 0 ≤ v → v < ((256 ^ n : Nat) : Int) → (val (u8s (le n v)) : Int) = v
  | 0, v, h1, h2 => by
    simp at h2
    simp [le, u8s, val]; omega
  | n + 1, v, h1, h2 => by
    have hp : (256 ^ (n + 1) : Nat) = 256 ^ n * 256 := by rw [Nat.pow_succ]
    have ih := val_le n (v / 256) (by omega) (by omega)
    have hu := u8_of v h1
    simp only [u8s] at ih
    simp only [le, u8s, List.map_cons, val, hu]
    omega

theorem le_val : ∀ (l : List UInt8), u8s (le l.length (val l : Int)) = l
  | [] => rfl
  | b :: r => by
    have ih := le_val r
    have hb : b.toNat < 256 := b.toNat_lt
    simp only [u8s] at ih
    simp only [List.length_cons, le, u8s, List.map_cons, val]
    have e1 : (((b.toNat + 256 * val r : Nat) : Int) % 256).toNat = b.toNat := by omega
    have e2 : ((b.toNat + 256 * val r : Nat) : Int) / 256 = (val r : Int) := by omega
    rw [e1, e2, ih]
    simp

theorem u8s_len (l : List Int) : (u8s l).length = l.length := by simp [u8s]

theorem rdS_enc : ∀ (ws vs e : List Int) (more : List UInt8), ws.all okW = true → ws.length = vs.length → enc ws vs = some e → rdS ws (u8s e ++ more) = vs
  | [], [], e, more, _, _, _ => rfl
  | [], _ :: _, _, _, _, h, _ => by simp at h
  | _ :: _, [], _, _, _, h, _ => by simp at h
  | w :: ws, v :: vs, e, more, hok, hl, h => by
    simp only [List.all_cons, Bool.and_eq_true] at hok
    simp only [enc] at h
    split at h
    · cases h
    · rename_i hv
      simp only [Option.map_eq_some_iff] at h
      obtain ⟨e2, h2, rfl⟩ := h
      have ih := rdS_enc ws vs e2 more hok.2 (by simpa using hl) h2
      have hlim := lim_pow w hok.1
      have e1 : (u8s (le w.toNat v ++ e2) ++ more).take w.toNat = u8s (le w.toNat v) := by
        rw [u8s_app, List.append_assoc, List.take_append_of_le_length (by simp [u8s, le_len]), List.take_of_length_le (by simp [u8s, le_len])]
      have e3 : (u8s (le w.toNat v ++ e2) ++ more).drop w.toNat = u8s e2 ++ more := by
        rw [u8s_app, List.append_assoc, List.drop_append_of_le_length (by simp [u8s, le_len]), List.drop_of_length_le (by simp [u8s, le_len])]
        rfl
      simp only [rdS, e1, e3, ih]
      rw [val_le w.toNat v (by omega) (by omega)]

theorem enc_rdS : ∀ (ws : List Int) (s : List UInt8), ws.all okW = true → ws.sum ≤ s.length → ∃ e, enc ws (rdS ws s) = some e ∧ u8s e = s.take ws.sum.toNat
  | [], s, _, _ => ⟨[], rfl, by simp [u8s]⟩
  | w :: ws, s, hok, hs => by
    simp only [List.all_cons, Bool.and_eq_true] at hok
    have hsum := sum_bound ws hok.2
    have hw := hok.1
    simp only [okW, Bool.or_eq_true, beq_iff_eq] at hw
    simp only [List.sum_cons] at hs
    obtain ⟨e, h1, h2⟩ := enc_rdS ws (s.drop w.toNat) hok.2 (by simp; omega)
    have hlim := lim_pow w hok.1
    have hlen : (s.take w.toNat).length = w.toNat := by simp; omega
    have hv := val_lt (s.take w.toNat)
    rw [hlen] at hv
    refine ⟨le w.toNat (val (s.take w.toNat) : Int) ++ e, ?_, ?_⟩
    · simp only [rdS, enc]
      rw [if_neg (by omega), h1]
      rfl
    · have h3 := le_val (s.take w.toNat)
      rw [hlen] at h3
      rw [u8s_app, h3, h2, List.sum_cons, show (w + ws.sum).toNat = w.toNat + ws.sum.toNat by omega, List.take_add]

theorem wainwrightlaw01_MouldBack_row (x0 x1 : List Int) (x2 : List UInt8) (_ : wfD (.sl I) x0) (_ : wfD (.sl I) x1) (_ : wfD .str x2) (hb : bulk (.sl I) x0 + bulk (.sl I) x1 + bulk .str x2 ≤ 1048576) : wainwrightlaw01_MouldBack (x0, x1, x2) = some true := by
  have h0 := ints_len x0
  have h1 := ints_len x1
  have h2 := str_len x2
  have hrl := rd_len x0 x2
  -- the second half
  have half : ((mould_Read (x0, x2)).bind fun (r53_0, r53_1) =>
        (mould_Write (x0, r53_0)).bind fun (r59_0, r59_1) =>
        if (r53_1 != 0) = false then
          if (r59_1 == 0) = true then
            if decide ((r59_0.length : Int) ≤ (x2.length : Int)) = true then
              if 0 ≤ (r59_0.length : Int) ∧ (r59_0.length : Int) ≤ (x2.length : Int) then
                some ((r59_0 == (x2.take ((r59_0.length : Int)).toNat)))
              else none
            else
              some false
          else
            some false
        else
          some true) = some true := by
    rw [mould_Read_is x0 x2 (by omega)]
    simp only [Option.bind_some]
    rw [mould_Write_is x0 _ (by omega) (by omega)]
    simp only [Option.bind_some]
    by_cases hok : x0.all okW = true
    · by_cases hs : (x2.length : Int) < x0.sum
      · have hrd : rd x0 x2 = ([], 2) := by unfold rd; rw [if_pos hok, if_pos hs]
        rw [hrd]; rfl
      · have hrd : rd x0 x2 = (rdS x0 x2, 0) := by unfold rd; rw [if_pos hok, if_neg hs]
        obtain ⟨e, he1, he2⟩ := enc_rdS x0 x2 hok (by omega)
        have hwr : wr x0 (rdS x0 x2) = (u8s e, 0) := by unfold wr; rw [if_pos ⟨hok, (rdS_len _ _).symm⟩, he1]
        have hsb := sum_bound x0 hok
        have hlen : (u8s e).length = x0.sum.toNat := by rw [he2]; simp; omega
        rw [hrd]
        dsimp only
        rw [hwr]
        dsimp only
        rw [if_pos (by decide), if_pos (by decide), if_pos (by simp; omega), if_pos (by omega), Int.toNat_natCast, hlen, ← he2]
        simp
    · have hrd : rd x0 x2 = ([], 1) := by unfold rd; rw [if_neg hok]
      rw [hrd]; rfl
  unfold wainwrightlaw01_MouldBack
  dsimp only
  simp only [lives_is, Option.bind_some, mould_Write_is x0 x1 (by omega) (by omega)]
  rw [if_neg (by decide)]
  by_cases hc : x0.all okW = true ∧ x0.length = x1.length ∧ (enc x0 x1).isSome = true
  · obtain ⟨hok, hl, hsome⟩ := hc
    obtain ⟨e, he⟩ := Option.isSome_iff_exists.1 hsome
    have hwr : wr x0 x1 = (u8s e, 0) := by unfold wr; rw [if_pos ⟨hok, hl⟩, he]
    have hlen := enc_len x0 x1 e hok he hl
    have hsb := sum_bound x0 hok
    have hrd : rd x0 (u8s e ++ x2) = (x1, 0) := by
      unfold rd
      rw [if_pos hok, if_neg (by simp [u8s_len]; omega), rdS_enc x0 x1 e x2 hok hl he]
    rw [hwr]
    dsimp only
    rw [if_pos (by rw [u8s_len]; omega), mould_Read_is x0 _ (by omega), hrd]
    simp only [Option.bind_some]
    rw [if_pos (by decide), if_pos (by decide), Same_is x1 x1 (by omega), mould_Size_is x0 (by omega)]
    simp only [Option.bind_some, decide_true]
    rw [if_pos (by decide), if_neg (by rw [u8s_len, show szI x0 = x0.sum from if_pos hok, hlen]; simp)]
    exact half
  · have hwr : (wr x0 x1).2 ≠ 0 ∧ (wr x0 x1).1 = [] := by
      unfold wr
      split
      · rename_i h
        cases he : enc x0 x1 with
        | none => simp
        | some e => exact absurd ⟨h.1, h.2, by rw [he]; rfl⟩ hc
      · simp
    generalize wr x0 x1 = p at hwr
    obtain ⟨p1, p2⟩ := p
    simp only at hwr
    obtain ⟨hp2, rfl⟩ := hwr
    dsimp only
    rw [if_pos (by simp; omega), mould_Read_is x0 _ (by omega)]
    simp only [Option.bind_some]
    rw [if_neg (by simp [hp2])]
    exact half

end Go.Proofs.Ytldmeogadmgkiaa.Abs
