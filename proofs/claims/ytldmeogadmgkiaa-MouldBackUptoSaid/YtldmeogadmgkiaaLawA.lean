/- The plain law of sizes. -/
import Derived.Test.YtldmeogadmgkiaaFns
import Derived.Test.YtldmeogadmgkiaaAbsPlain
namespace Go.Proofs.Ytldmeogadmgkiaa.Abs
open Go

def okW (w : Int) : Bool := w == 1 || w == 2 || w == 4
def szI (ws : List Int) : Int := if ws.all okW then ws.sum else -1

theorem sum_bound : ∀ (ws : List Int), ws.all okW = true → 0 ≤ ws.sum ∧ ws.sum ≤ 4 * ws.length
  | [], _ => by simp
  | w :: ws, h => by
    simp only [List.all_cons, Bool.and_eq_true] at h
    have := sum_bound ws h.2
    have h1 := h.1
    simp only [okW, Bool.or_eq_true, beq_iff_eq] at h1
    simp only [List.sum_cons, List.length_cons]
    omega

theorem size_l1 (ws : List Int) (hl : ws.length < 1099511627776) : ∀ (k i : Nat) (n : Int), i + k = ws.length → 0 ≤ n → n ≤ 4 * i →
    loopO mould_Size.l1 (n, ws, (ws.length : Int), (i : Int)) = some (if (ws.drop i).all okW then .inl (n + (ws.drop i).sum) else .inr (-1)) := by
  intro k
  induction k with
  | zero =>
    intro i n hi _ _
    refine loopO_inr ?_
    have h1 : ¬ ((i : Int) < (ws.length : Int)) := by omega
    have h2 : ws.drop i = [] := List.drop_eq_nil_of_le (by omega)
    simp [mould_Size.l1, h1, h2]
  | succ k ih =>
    intro i n hi hn hn2
    have hlt : i < ws.length := by omega
    have hd : ws.drop i = ws[i] :: ws.drop (i + 1) := List.drop_eq_getElem_cons hlt
    have hg : ws.getD i 0 = ws[i] := getD_lt hlt
    have h1 : (i : Int) < (ws.length : Int) := by omega
    have hi1 : IntKind.i64.wrap ((i : Int) + 1) = ((i + 1 : Nat) : Int) := by rw [wrap64 (by omega) (by omega)]; rfl
    by_cases hw : okW ws[i] = true
    · have hw' := hw
      simp only [okW, Bool.or_eq_true, beq_iff_eq] at hw'
      have hn1 : IntKind.i64.wrap (n + ws[i]) = n + ws[i] := wrap64 (by omega) (by omega)
      have step : mould_Size.l1 (n, ws, (ws.length : Int), (i : Int)) = some (.inl (n + ws[i], ws, (ws.length : Int), ((i + 1 : Nat) : Int))) := by
        rcases hw' with (h | h) | h <;> simp only [mould_Size.l1, Int.toNat_natCast, hg, hi1, hn1] <;> simp [h1, h]
      rw [loopO_inl step, ih (i + 1) (n + ws[i]) (by omega) (by omega) (by omega), hd]
      simp only [List.all_cons, hw, Bool.true_and, List.sum_cons]
      by_cases h : (ws.drop (i + 1)).all okW = true
      · rw [if_pos h, if_pos h, Int.add_assoc]
      · rw [if_neg h, if_neg h]
    · have hw' := hw
      simp only [okW, Bool.or_eq_true, beq_iff_eq, not_or] at hw'
      rw [hd]
      simp only [List.all_cons, hw, Bool.false_and]
      refine loopO_inr ?_
      simp only [mould_Size.l1, Int.toNat_natCast, hg]
      simp [h1, hw']

theorem mould_Size_is (ws : List Int) (hl : ws.length < 1099511627776) : mould_Size ws = some (szI ws) := by
  unfold mould_Size
  have := size_l1 ws hl ws.length 0 0 (by omega) (by omega) (by omega)
  simp only [Int.ofNat_zero, List.drop_zero, Int.zero_add] at this
  by_cases h : ws.all okW = true
  · rw [if_pos h] at this
    rw [this, szI, if_pos h]; rfl
  · rw [if_neg h] at this
    rw [this, szI, if_neg h]; rfl

theorem rsize_l1 (ws : List Int) (hl : ws.length < 1099511627776) : ∀ (k i : Nat) (n : Int), i + k = ws.length → 0 ≤ n → n ≤ 4 * i →
    loopO wainwrightref01_Size.l1 (ws, n, (i : Int)) = some (if (ws.drop i).all okW then .inl (n + (ws.drop i).sum) else .inr (-1)) := by
  intro k
  induction k with
  | zero =>
    intro i n hi _ _
    refine loopO_inr ?_
    have h1 : ¬ ((i : Int) < (ws.length : Int)) := by omega
    have h2 : ws.drop i = [] := List.drop_eq_nil_of_le (by omega)
    simp [wainwrightref01_Size.l1, h1, h2]
  | succ k ih =>
    intro i n hi hn hn2
    have hlt : i < ws.length := by omega
    have hd : ws.drop i = ws[i] :: ws.drop (i + 1) := List.drop_eq_getElem_cons hlt
    have hg : ws.getD i 0 = ws[i] := getD_lt hlt
    have h1 : (i : Int) < (ws.length : Int) := by omega
    have hi1 : IntKind.i64.wrap ((i : Int) + 1) = ((i + 1 : Nat) : Int) := by rw [wrap64 (by omega) (by omega)]; rfl
    by_cases hw : okW ws[i] = true
    · have hw' := hw
      simp only [okW, Bool.or_eq_true, beq_iff_eq] at hw'
      have hn1 : IntKind.i64.wrap (n + ws[i]) = n + ws[i] := wrap64 (by omega) (by omega)
      have step : wainwrightref01_Size.l1 (ws, n, (i : Int)) = some (.inl (ws, n + ws[i], ((i + 1 : Nat) : Int))) := by
        rcases hw' with (h | h) | h <;> simp only [wainwrightref01_Size.l1, Int.toNat_natCast, hg, hi1, hn1] <;> simp [h1, h]
      rw [loopO_inl step, ih (i + 1) (n + ws[i]) (by omega) (by omega) (by omega), hd]
      simp only [List.all_cons, hw, Bool.true_and, List.sum_cons]
      by_cases h : (ws.drop (i + 1)).all okW = true
      · rw [if_pos h, if_pos h, Int.add_assoc]
      · rw [if_neg h, if_neg h]
    · have hw' := hw
      simp only [okW, Bool.or_eq_true, beq_iff_eq, not_or] at hw'
      rw [hd]
      simp only [List.all_cons, hw, Bool.false_and]
      refine loopO_inr ?_
      simp only [wainwrightref01_Size.l1, Int.toNat_natCast, hg]
      simp [h1, hw']

theorem ref_Size_is (ws : List Int) (hl : ws.length < 1099511627776) : wainwrightref01_Size ws = some (szI ws) := by
  unfold wainwrightref01_Size
  have := rsize_l1 ws hl ws.length 0 0 (by omega) (by omega) (by omega)
  simp only [Int.ofNat_zero, List.drop_zero, Int.zero_add] at this
  by_cases h : ws.all okW = true
  · rw [if_pos h] at this
    rw [this, szI, if_pos h]; rfl
  · rw [if_neg h] at this
    rw [this, szI, if_neg h]; rfl

/-! ### Records -/

def le : Nat → Int → List Int
  | 0, _ => []
  | n + 1, v => v % 256 :: le n (v / 256)

def lim (w : Int) : Int := if w = 1 then 255 else if w = 2 then 65535 else 4294967295

def enc : List Int → List Int → Option (List Int)
  | w :: ws, v :: vs => if v < 0 ∨ v > lim w then none else (enc ws vs).map (le w.toNat v ++ ·)
  | _, _ => some []

theorem le_len : ∀ (n : Nat) (v : Int), (le n v).length = n
  | 0, _ => rfl
  | n + 1, v => by simp [le, le_len n]

theorem wr_l2 (ws t : List Int) (tl i : Int) : ∀ (k : Nat) (b : List Int) (v : Int), 0 ≤ v → b.length + k < 1099511627776 →
    loopO mould_Write.l2 (ws, b, v, (k : Int), t, tl, i) = some (ws, b ++ le k v, t, tl, i)
  | 0, b, v, _, _ => by
    refine loopO_inr ?_
    simp [mould_Write.l2, le]
  | k + 1, b, v, hv, hb => by
    have h8 : Int.fdiv v (2 ^ 8) = v / 256 := by
      rw [Int.fdiv_eq_ediv_of_nonneg _ (by decide)]; rfl
    have hk : IntKind.i64.wrap (((k + 1 : Nat) : Int) - 1) = (k : Int) := by rw [wrap64 (by omega) (by omega)]; omega
    have hr : roomOk (b.length + ([v % 256] : List Int).length) 1 := room (by decide) (by simp; omega)
    have hpos : ((k + 1 : Nat) : Int) > 0 := by omega
    have step : mould_Write.l2 (ws, b, v, ((k + 1 : Nat) : Int), t, tl, i) = some (.inl (ws, b ++ [v % 256], v / 256, (k : Int), t, tl, i)) := by
      simp only [mould_Write.l2, h8, hk, wrapu8, if_pos hr, decide_eq_true hpos, if_true]
    rw [loopO_inl step, wr_l2 ws t tl i k (b ++ [v % 256]) (v / 256) (by omega) (by simp; omega)]
    simp [le]

theorem shr_lim (w v : Int) (hw : (w = 1 ∨ w = 2) ∨ w = 4) (hv : 0 ≤ v) : (Int.fdiv v (2 ^ (min (8 * w).toNat 64)) != 0) = decide (v > lim w) := by
  have key : ∀ (m l : Int), 0 < m → l = m - 1 → (Int.fdiv v m != 0) = decide (v > l) := by
    intro m l hm hl
    rw [Int.fdiv_eq_ediv_of_nonneg _ (by omega), Bool.eq_iff_iff]
    simp only [bne_iff_ne, ne_eq, decide_eq_true_eq]
    by_cases h : v < m
    · have := Int.ediv_eq_zero_of_lt hv h
      omega
    · have : 1 ≤ v / m := (Int.le_ediv_iff_mul_le hm).2 (by omega)
      omega
  rcases hw with (h | h) | h <;> subst h
  · exact key _ _ (by decide) (by decide)
  · exact key _ _ (by decide) (by decide)
  · exact key _ _ (by decide) (by decide)

theorem wr_l1 (ws vs : List Int) (hl : ws.length < 1099511627) (he : vs.length = ws.length) (hok : ws.all okW = true) : ∀ (k i : Nat) (b : List Int), i + k = ws.length → b.length ≤ 4 * i →
    loopO mould_Write.l1 (ws, b, vs, (vs.length : Int), (i : Int)) = some (match enc (ws.drop i) (vs.drop i) with | none => .inr ([], 3) | some e => .inl (b ++ e)) := by
  intro k
  induction k with
  | zero =>
    intro i b hi _
    refine loopO_inr ?_
    have h1 : ¬ ((i : Int) < (vs.length : Int)) := by omega
    have h2 : ws.drop i = [] := List.drop_eq_nil_of_le (by omega)
    simp [mould_Write.l1, h1, h2, enc]
  | succ k ih =>
    intro i b hi hb
    have hlt : i < ws.length := by omega
    have hlv : i < vs.length := by omega
    have hd : ws.drop i = ws[i] :: ws.drop (i + 1) := List.drop_eq_getElem_cons hlt
    have hdv : vs.drop i = vs[i] :: vs.drop (i + 1) := List.drop_eq_getElem_cons hlv
    have hg : ws.getD i 0 = ws[i] := getD_lt hlt
    have hgv : vs.getD i 0 = vs[i] := getD_lt hlv
    have h1 : (i : Int) < (ws.length : Int) := by omega
    have h1v : (i : Int) < (vs.length : Int) := by omega
    have hi1 : IntKind.i64.wrap ((i : Int) + 1) = ((i + 1 : Nat) : Int) := by rw [wrap64 (by omega) (by omega)]; rfl
    have hw : okW ws[i] = true := List.all_eq_true.1 hok _ (List.getElem_mem hlt)
    simp only [okW, Bool.or_eq_true, beq_iff_eq] at hw
    rw [hd, hdv]
    simp only [enc]
    have h8 : IntKind.i64.wrap (8 * ws[i]) = 8 * ws[i] := wrap64 (by omega) (by omega)
    by_cases hneg : vs[i] < 0
    · rw [if_pos (.inl hneg)]
      refine loopO_inr ?_
      simp only [mould_Write.l1, Int.toNat_natCast, hg, hgv]
      simp [h1, h1v, hneg]
    · have hfd : ∀ (m : Int), 0 < m → Int.fdiv vs[i] m = vs[i] / m := fun m hm => Int.fdiv_eq_ediv_of_nonneg _ (by omega)
      have hsh : (Int.fdiv vs[i] (2 ^ (min (8 * ws[i]).toNat 64)) != 0) = decide (vs[i] > lim ws[i]) := shr_lim ws[i] vs[i] hw (by omega)
      by_cases hbig : vs[i] > lim ws[i]
      · rw [if_pos (.inr hbig)]
        refine loopO_inr ?_
        simp only [mould_Write.l1, Int.toNat_natCast, hg, hgv, h8, hsh]
        have : 0 ≤ 8 * ws[i] := by omega
        simp [h1, h1v, hneg, hbig, this]
      · rw [if_neg (by omega)]
        have hwn : ws[i] = ((ws[i].toNat : Nat) : Int) := by omega
        have hin := wr_l2 ws vs (vs.length : Int) (i : Int) ws[i].toNat b vs[i] (by omega) (by omega)
        rw [← hwn] at hin
        have step : mould_Write.l1 (ws, b, vs, (vs.length : Int), (i : Int)) = some (.inl (ws, b ++ le ws[i].toNat vs[i], vs, (vs.length : Int), ((i + 1 : Nat) : Int))) := by
          simp only [mould_Write.l1, Int.toNat_natCast, hg, hgv, h8, hsh, hin, Option.bind_some, hi1]
          have : 0 ≤ 8 * ws[i] := by omega
          simp [h1, h1v, hneg, hbig, this]
        rw [loopO_inl step, ih (i + 1) _ (by omega) (by simp [le_len]; omega)]
        cases enc (ws.drop (i + 1)) (vs.drop (i + 1)) <;> simp

theorem rwr_l2 (ws vs : List Int) (i : Nat) (hi : i < ws.length) (hw : 0 ≤ ws[i]) (hw2 : ws[i] ≤ 4) : ∀ (k : Nat) (b : List Int) (v : Int) (j : Nat), (j : Int) + k = ws[i] → 0 ≤ v → v < 9223372036854775808 → b.length + k < 1099511627776 →
    loopO wainwrightref01_Write.l2 (ws, vs, b, (i : Int), v, (j : Int)) = some (ws, vs, b ++ le k v, (i : Int))
  | 0, b, v, j, hj, _, _, _ => by
    refine loopO_inr ?_
    have h1 : (i : Int) < (ws.length : Int) := by omega
    have hg : ws.getD i 0 = ws[i] := getD_lt hi
    have : ¬ ((j : Int) < ws[i]) := by omega
    simp only [wainwrightref01_Write.l2, Int.toNat_natCast, hg]
    simp [h1, this, le]
  | k + 1, b, v, j, hj, hv, hv2, hb => by
    have h1 : (i : Int) < (ws.length : Int) := by omega
    have hg : ws.getD i 0 = ws[i] := getD_lt hi
    have hlt : (j : Int) < ws[i] := by omega
    have hm : IntKind.u8.wrap (Int.tmod v 256) = v % 256 := by
      rw [wrapu8, Int.tmod_eq_emod_of_nonneg hv, Int.emod_emod_of_dvd _ (by decide)]
    have hq : IntKind.i64.wrap (Int.tdiv v 256) = v / 256 := by
      rw [Int.tdiv_eq_ediv_of_nonneg hv, wrap64 (by omega) (by omega)]
    have hj1 : IntKind.i64.wrap ((j : Int) + 1) = ((j + 1 : Nat) : Int) := by rw [wrap64 (by omega) (by omega)]; rfl
    have hr : roomOk (b.length + ([v % 256] : List Int).length) 1 := room (by decide) (by simp; omega)
    have step : wainwrightref01_Write.l2 (ws, vs, b, (i : Int), v, (j : Int)) = some (.inl (ws, vs, b ++ [v % 256], (i : Int), v / 256, ((j + 1 : Nat) : Int))) := by
      simp only [wainwrightref01_Write.l2, Int.toNat_natCast, hg, hm, hq, hj1, if_pos hr]
      simp [h1, hlt]
    rw [loopO_inl step, rwr_l2 ws vs i hi hw hw2 k (b ++ [v % 256]) (v / 256) (j + 1) (by omega) (by omega) (by omega) (by simp; omega)]
    simp [le]

theorem most_is (w : Int) : wainwrightref01_most w = some (lim w) := by
  unfold wainwrightref01_most lim
  by_cases h1 : w = 1
  · simp [h1]
  · by_cases h2 : w = 2
    · simp [h2]
    · simp [h1, h2]

theorem rwr_l1 (ws vs : List Int) (hl : ws.length < 1099511627) (he : vs.length = ws.length) (hok : ws.all okW = true) : ∀ (k i : Nat) (b : List Int), i + k = ws.length → b.length ≤ 4 * i →
    loopO wainwrightref01_Write.l1 (ws, vs, b, (i : Int)) = some (match enc (ws.drop i) (vs.drop i) with | none => .inr ([], 3) | some e => .inl (b ++ e)) := by
  intro k
  induction k with
  | zero =>
    intro i b hi _
    refine loopO_inr ?_
    have h1 : ¬ ((i : Int) < (ws.length : Int)) := by omega
    have h2 : ws.drop i = [] := List.drop_eq_nil_of_le (by omega)
    simp [wainwrightref01_Write.l1, h1, h2, enc]
  | succ k ih =>
    intro i b hi hb
    have hlt : i < ws.length := by omega
    have hlv : i < vs.length := by omega
    have hd : ws.drop i = ws[i] :: ws.drop (i + 1) := List.drop_eq_getElem_cons hlt
    have hdv : vs.drop i = vs[i] :: vs.drop (i + 1) := List.drop_eq_getElem_cons hlv
    have hg : ws.getD i 0 = ws[i] := getD_lt hlt
    have hgv : vs.getD i 0 = vs[i] := getD_lt hlv
    have h1 : (i : Int) < (ws.length : Int) := by omega
    have h1v : (i : Int) < (vs.length : Int) := by omega
    have hi1 : IntKind.i64.wrap ((i : Int) + 1) = ((i + 1 : Nat) : Int) := by rw [wrap64 (by omega) (by omega)]; rfl
    have hw : okW ws[i] = true := List.all_eq_true.1 hok _ (List.getElem_mem hlt)
    simp only [okW, Bool.or_eq_true, beq_iff_eq] at hw
    have hlim : lim ws[i] ≤ 4294967295 := by unfold lim; split <;> (try split) <;> omega
    rw [hd, hdv]
    simp only [enc]
    by_cases hneg : vs[i] < 0
    · rw [if_pos (.inl hneg)]
      refine loopO_inr ?_
      simp only [wainwrightref01_Write.l1, Int.toNat_natCast, hg, hgv]
      simp [h1, h1v, hneg]
    · by_cases hbig : vs[i] > lim ws[i]
      · rw [if_pos (.inr hbig)]
        refine loopO_inr ?_
        simp only [wainwrightref01_Write.l1, Int.toNat_natCast, hg, hgv, most_is]
        simp [h1, h1v, hneg, hbig]
      · rw [if_neg (by omega)]
        have hin := rwr_l2 ws vs i hlt (by omega) (by omega) ws[i].toNat b vs[i] 0 (by omega) (by omega) (by omega) (by omega)
        rw [show (((0 : Nat) : Int)) = 0 from rfl] at hin
        have step : wainwrightref01_Write.l1 (ws, vs, b, (i : Int)) = some (.inl (ws, vs, b ++ le ws[i].toNat vs[i], ((i + 1 : Nat) : Int))) := by
          simp only [wainwrightref01_Write.l1, Int.toNat_natCast, hg, hgv, most_is, Option.bind_some, hin, hi1]
          simp [h1, h1v, hneg, hbig]
        rw [loopO_inl step, ih (i + 1) _ (by omega) (by simp [le_len]; omega)]
        cases enc (ws.drop (i + 1)) (vs.drop (i + 1)) <;> simp

def u8s (l : List Int) : List UInt8 := l.map fun (n : Int) => UInt8.ofNat n.toNat

def wr (ws vs : List Int) : List UInt8 × Int :=
  if ws.all okW = true ∧ ws.length = vs.length then (match enc ws vs with | none => ([], 3) | some e => (u8s e, 0)) else ([], 1)

theorem szI_neg (ws : List Int) : szI ws < 0 ↔ ¬ ws.all okW = true := by
  unfold szI
  split
  · rename_i h
    have := (sum_bound ws h).1
    constructor
    · omega
    · intro h2; exact absurd h h2
  · rename_i h
    simp [h]

theorem mould_Write_is (ws vs : List Int) (hl : ws.length < 1099511627) (_hlv : vs.length < 1099511627) : mould_Write (ws, vs) = some (wr ws vs) := by
  unfold mould_Write wr
  simp only [mould_Size_is ws (by omega), Option.bind_some]
  by_cases hok : ws.all okW = true
  · have hneg : ¬ szI ws < 0 := fun h => (szI_neg ws).1 h hok
    have hsz : szI ws = ws.sum := if_pos hok
    have hb := sum_bound ws hok
    rw [if_pos (by simp [hneg])]
    by_cases he : ws.length = vs.length
    · rw [if_neg (by simp [he]), if_pos (And.intro hok he)]
      have := wr_l1 ws vs hl he.symm hok ws.length 0 [] (by omega) (by simp)
      simp only [Int.ofNat_zero, List.drop_zero] at this
      rw [if_pos (by rw [hsz]; omega)]
      simp only [List.replicate_zero]
      rw [this]
      cases enc ws vs <;> simp [u8s]
    · rw [if_pos (by simp; omega), if_neg (by simp [he])]
  · have hneg : szI ws < 0 := (szI_neg ws).2 hok
    rw [if_neg (by simp [hneg]), if_neg (by simp [hok])]

theorem ref_Write_is (ws vs : List Int) (hl : ws.length < 1099511627) (_hlv : vs.length < 1099511627) : wainwrightref01_Write (ws, vs) = some (wr ws vs) := by
  unfold wainwrightref01_Write wr
  simp only [ref_Size_is ws (by omega), Option.bind_some]
  by_cases hok : ws.all okW = true
  · have hneg : ¬ szI ws < 0 := fun h => (szI_neg ws).1 h hok
    rw [if_pos (by simp [hneg])]
    by_cases he : ws.length = vs.length
    · rw [if_neg (by simp [he]), if_pos (And.intro hok he)]
      have := rwr_l1 ws vs hl he.symm hok ws.length 0 [] (by omega) (by simp)
      simp only [Int.ofNat_zero, List.drop_zero] at this
      rw [this]
      cases enc ws vs <;> simp [u8s]
    · rw [if_pos (by simp; omega), if_neg (by simp [he])]
  · have hneg : szI ws < 0 := (szI_neg ws).2 hok
    rw [if_neg (by simp [hneg]), if_neg (by simp [hok])]

end Go.Proofs.Ytldmeogadmgkiaa.Abs
