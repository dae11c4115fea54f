/- The plain laws of reading (the reference's), of splitting, and of there and back. -/
import Derived.Test.YtldmeogadmgkiaaLawB
namespace Go.Proofs.Ytldmeogadmgkiaa.Abs
open Go

theorem rrd_l2 (ws : List Int) (s : List UInt8) (out : List Int) (at7 i : Int) (a : Nat) (hat : at7 = (a : Int)) (hs : s.length < 1099511627776) : ∀ (k : Nat) (v : Nat), k ≤ 4 → a + k ≤ s.length → v < 256 ^ (4 - k) →
    loopO wainwrightref01_Read.l2 (ws, s, out, at7, i, (v : Int), (k : Int) - 1) = some (ws, s, out, at7, i, ((256 ^ k * v + val ((s.drop a).take k) : Nat) : Int))
  | 0, v, _, _, _ => by
    refine loopO_inr ?_
    simp [wainwrightref01_Read.l2, val]
  | k + 1, v, hk, hl, hv => by
    subst hat
    have hlt : a + k < s.length := by omega
    have e1 : ((k + 1 : Nat) : Int) - 1 = (k : Int) := by omega
    have e2 : IntKind.i64.wrap ((a : Int) + (k : Int)) = ((a + k : Nat) : Int) := by rw [wrap64 (by omega) (by omega)]; rfl
    have hg : s.getD (a + k) 0 = s[a + k] := getD_lt hlt
    have hc : s[a + k].toNat < 256 := s[a + k].toNat_lt
    have hv4 : 256 ^ (4 - (k + 1)) ≤ 256 ^ 3 := Nat.pow_le_pow_right (by decide) (by omega)
    have h4 : (256 ^ 3 : Nat) = 16777216 := by decide
    have e3 : IntKind.i64.wrap (IntKind.i64.wrap (256 * (v : Int)) + IntKind.i64.wrap (s[a + k].toNat : Int)) = ((256 * v + s[a + k].toNat : Nat) : Int) := by
      rw [wrap64 (n := 256 * (v : Int)) (by omega) (by omega), wrap64 (n := (s[a + k].toNat : Int)) (by omega) (by omega), wrap64 (by omega) (by omega)]
      rfl
    have e4 : IntKind.i64.wrap ((k : Int) - 1) = (k : Int) - 1 := wrap64 (by omega) (by omega)
    have step : wainwrightref01_Read.l2 (ws, s, out, (a : Int), i, (v : Int), ((k + 1 : Nat) : Int) - 1) = some (.inl (ws, s, out, (a : Int), i, ((256 * v + s[a + k].toNat : Nat) : Int), (k : Int) - 1)) := by
      rw [e1]
      simp only [wainwrightref01_Read.l2, e2, Int.toNat_natCast, hg, e3, e4]
      rw [if_pos (by simp), if_pos (by omega)]
    have hv2 : 256 * v + s[a + k].toNat < 256 ^ (4 - k) := by
      have : (256 ^ (4 - k) : Nat) = 256 ^ (4 - (k + 1)) * 256 := by rw [← Nat.pow_succ]; congr 1; omega
      omega
    rw [loopO_inl step, rrd_l2 ws s out (a : Int) i a rfl hs k _ (by omega) (by omega) hv2]
    have hvt := val_take_succ (s.drop a) k (by simp; omega)
    rw [List.getElem_drop] at hvt
    rw [hvt, Nat.mul_add, Nat.pow_succ, Nat.mul_comm (s[a + k].toNat), Nat.mul_assoc]
    congr 6
    omega

theorem rrd_l1 (ws : List Int) (hl : ws.length < 1099511627) (hok : ws.all okW = true) (s : List UInt8) (hsl : s.length < 1099511627776) : ∀ (k i a : Nat) (out : List Int), i + k = ws.length → out.length = i → (a : Int) + (ws.drop i).sum ≤ s.length →
    loopO wainwrightref01_Read.l1 (ws, s, out, (a : Int), (i : Int)) = some (out ++ rdS (ws.drop i) (s.drop a)) := by
  intro k
  induction k with
  | zero =>
    intro i a out hi ho _
    refine loopO_inr ?_
    have h1 : ¬ ((i : Int) < (ws.length : Int)) := by omega
    have h2 : ws.drop i = [] := List.drop_eq_nil_of_le (by omega)
    simp [wainwrightref01_Read.l1, h1, h2, rdS]
  | succ k ih =>
    intro i a out hi ho hs
    have hlt : i < ws.length := by omega
    have hd : ws.drop i = ws[i] :: ws.drop (i + 1) := List.drop_eq_getElem_cons hlt
    have hg : ws.getD i 0 = ws[i] := getD_lt hlt
    have h1 : (i : Int) < (ws.length : Int) := by omega
    have hi1 : IntKind.i64.wrap ((i : Int) + 1) = ((i + 1 : Nat) : Int) := by rw [wrap64 (by omega) (by omega)]; rfl
    have hw : okW ws[i] = true := List.all_eq_true.1 hok _ (List.getElem_mem hlt)
    simp only [okW, Bool.or_eq_true, beq_iff_eq] at hw
    have hrest : (ws.drop (i + 1)).all okW = true := List.all_eq_true.2 fun x hx => List.all_eq_true.1 hok x (List.mem_of_mem_drop hx)
    have hsum := sum_bound _ hrest
    rw [hd, List.sum_cons] at hs
    have hwn : ws[i] = ((ws[i].toNat : Nat) : Int) := by omega
    have hw1 : IntKind.i64.wrap (ws[i] - 1) = ((ws[i].toNat : Nat) : Int) - 1 := by rw [wrap64 (by omega) (by omega)]; omega
    have ha1 : IntKind.i64.wrap ((a : Int) + ws[i]) = ((a + ws[i].toNat : Nat) : Int) := by rw [wrap64 (by omega) (by omega)]; omega
    have hin := rrd_l2 ws s out (a : Int) (i : Int) a rfl hsl ws[i].toNat 0 (by omega) (by omega) (Nat.pow_pos (by decide))
    rw [show (((0 : Nat) : Int)) = 0 from rfl] at hin
    have hr : roomOk (out.length + ([((256 ^ ws[i].toNat * 0 + val ((s.drop a).take ws[i].toNat) : Nat) : Int)] : List Int).length) 8 := room (by decide) (by simp; omega)
    have step : wainwrightref01_Read.l1 (ws, s, out, (a : Int), (i : Int)) = some (.inl (ws, s, out ++ [(val ((s.drop a).take ws[i].toNat) : Int)], ((a + ws[i].toNat : Nat) : Int), ((i + 1 : Nat) : Int))) := by
      simp only [wainwrightref01_Read.l1, Int.toNat_natCast, hg, hw1, hin, Option.bind_some, ha1, hi1]
      rw [if_pos (by simpa using h1), if_pos (by omega), if_pos hr, if_pos (by omega)]
      simp
    rw [loopO_inl step, ih (i + 1) _ _ (by omega) (by simp; omega) (by omega), hd]
    simp [rdS, List.drop_drop]

theorem ref_Read_is (ws : List Int) (s : List UInt8) (hl : ws.length < 1099511627) (hsl : s.length < 1099511627776) : wainwrightref01_Read (ws, s) = some (rd ws s) := by
  unfold wainwrightref01_Read rd
  simp only [ref_Size_is ws (by omega), Option.bind_some]
  by_cases hok : ws.all okW = true
  · have hneg : ¬ szI ws < 0 := fun h => (szI_neg ws).1 h hok
    have hsz : szI ws = ws.sum := if_pos hok
    rw [if_neg (by simp [hneg]), if_pos hok, hsz]
    by_cases hs : (s.length : Int) < ws.sum
    · rw [if_pos (by simpa using hs), if_pos hs]
    · rw [if_neg (by simpa using hs), if_neg hs]
      have := rrd_l1 ws hl hok s hsl ws.length 0 0 [] (by omega) rfl (by simp; omega)
      simp only [Int.ofNat_zero, List.drop_zero, List.nil_append] at this
      rw [this]
      rfl
  · have hneg : szI ws < 0 := (szI_neg ws).2 hok
    rw [if_pos (by simp [hneg]), if_neg hok]

theorem same_l1 (a b : List Int) (he : a.length = b.length) (hl : a.length < 1099511627776) : ∀ (k i : Nat), i + k = a.length →
    loopO wainwrightref01_Same.l1 (a, b, (i : Int)) = some (if a.drop i = b.drop i then .inl () else .inr false) := by
  intro k
  induction k with
  | zero =>
    intro i hi
    refine loopO_inr ?_
    have h1 : ¬ ((i : Int) < (a.length : Int)) := by omega
    have h2 : a.drop i = [] := List.drop_eq_nil_of_le (by omega)
    have h3 : b.drop i = [] := List.drop_eq_nil_of_le (by omega)
    simp [wainwrightref01_Same.l1, h1, h2, h3]
  | succ k ih =>
    intro i hi
    have hla : i < a.length := by omega
    have hlb : i < b.length := by omega
    have hda : a.drop i = a[i] :: a.drop (i + 1) := List.drop_eq_getElem_cons hla
    have hdb : b.drop i = b[i] :: b.drop (i + 1) := List.drop_eq_getElem_cons hlb
    have hga : a.getD i 0 = a[i] := getD_lt hla
    have hgb : b.getD i 0 = b[i] := getD_lt hlb
    have hi1 : IntKind.i64.wrap ((i : Int) + 1) = ((i + 1 : Nat) : Int) := by rw [wrap64 (by omega) (by omega)]; rfl
    rw [hda, hdb]
    by_cases hx : a[i] = b[i]
    · have step : wainwrightref01_Same.l1 (a, b, (i : Int)) = some (.inl (a, b, ((i + 1 : Nat) : Int))) := by
        simp only [wainwrightref01_Same.l1, Int.toNat_natCast, hga, hgb, hi1]
        rw [if_pos (by simpa using hla), if_pos (by omega), if_pos (by omega), if_neg (by simp [hx])]
      rw [loopO_inl step, ih (i + 1) (by omega)]
      by_cases hr : a.drop (i + 1) = b.drop (i + 1)
      · rw [if_pos hr, if_pos (by rw [hx, hr])]
      · rw [if_neg hr, if_neg (fun h => hr (List.cons.inj h).2)]
    · refine loopO_inr ?_
      simp only [wainwrightref01_Same.l1, Int.toNat_natCast, hga, hgb]
      rw [if_pos (by simpa using hla), if_pos (by omega), if_pos (by omega), if_pos (by simp [hx])]
      rw [if_neg (fun h => hx (List.cons.inj h).1)]

theorem Same_is (a b : List Int) (hl : a.length < 1099511627776) : wainwrightref01_Same (a, b) = some (decide (a = b)) := by
  unfold wainwrightref01_Same
  dsimp only
  by_cases he : a.length = b.length
  · have := same_l1 a b he hl a.length 0 (by omega)
    simp only [Int.ofNat_zero, List.drop_zero] at this
    rw [if_neg (by simp [he]), this]
    by_cases h : a = b <;> simp [h]
  · rw [if_pos (by simp; omega)]
    have : a ≠ b := fun h => he (by rw [h])
    simp [this]

theorem rdS_len : ∀ (ws : List Int) (s : List UInt8), (rdS ws s).length = ws.length
  | [], _ => rfl
  | w :: ws, s => by simp [rdS, rdS_len ws]

theorem rd_len (ws : List Int) (s : List UInt8) : (rd ws s).1.length ≤ ws.length := by
  unfold rd
  split
  · split
    · simp
    · simp [rdS_len]
  · simp

theorem str_len (s : List UInt8) : s.length < bulk .str s := by simp [bulk]

theorem wainwrightlaw01_MouldReads_row (x0 : List Int) (x1 : List UInt8) (_ : wfD (.sl I) x0) (_ : wfD .str x1) (hb : bulk (.sl I) x0 + bulk .str x1 ≤ 1048576) : wainwrightlaw01_MouldReads (x0, x1) = some true := by
  have h0 := ints_len x0
  have h1 := str_len x1
  have h2 := rd_len x0 x1
  unfold wainwrightlaw01_MouldReads
  simp only [lives_is, Option.bind_some, mould_Read_is x0 x1 (by omega), ref_Read_is x0 x1 (by omega) (by omega), Same_is _ _ (show (rd x0 x1).1.length < 1099511627776 by omega)]
  simp

end Go.Proofs.Ytldmeogadmgkiaa.Abs
