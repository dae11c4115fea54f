/- The plain law of reading, and the laws of layer 1. -/
import Derived.Test.YtldmeogadmgkiaaLawA
import Derived.Test.YtldmeogadmgkiaaAbsOpen
namespace Go.Proofs.Ytldmeogadmgkiaa.Abs
open Go

def val : List UInt8 → Nat
  | [] => 0
  | b :: r => b.toNat + 256 * val r

def rdS : List Int → List UInt8 → List Int
  | w :: ws, s => (val (s.take w.toNat) : Int) :: rdS ws (s.drop w.toNat)
  | [], _ => []

theorem val_take_succ : ∀ (l : List UInt8) (j : Nat) (h : j < l.length), val (l.take (j + 1)) = val (l.take j) + l[j].toNat * 256 ^ j
  | b :: r, 0, _ => by simp [val]
  | b :: r, j + 1, h => by
    have h' : j < r.length := by simpa using h
    have := val_take_succ r j h'
    simp only [List.take_succ_cons, val, this, List.getElem_cons_succ, Nat.pow_succ, Nat.mul_add]
    have e : 256 * (r[j].toNat * 256 ^ j) = r[j].toNat * (256 ^ j * 256) := by
      rw [Nat.mul_comm 256, Nat.mul_assoc]
    omega

theorem val_lt : ∀ (l : List UInt8), val l < 256 ^ l.length
  | [] => by simp [val]
  | b :: r => by
    have := val_lt r
    have hb : b.toNat < 256 := b.toNat_lt
    simp only [val, List.length_cons, Nat.pow_succ]
    omega

theorem shl_is {c j : Nat} (hc : c < 256) (hj : j < 4) : IntKind.i64.wrap (IntKind.i64.wrap (c : Int) * 2 ^ (min (IntKind.i64.wrap (8 * (j : Int))).toNat 64)) = ((c * 256 ^ j : Nat) : Int) := by
  rw [wrap64 (n := (c : Int)) (by omega) (by omega), wrap64 (n := 8 * (j : Int)) (by omega) (by omega)]
  have hj' : j = 0 ∨ j = 1 ∨ j = 2 ∨ j = 3 := by omega
  have key : ∀ m : Int, 0 < m → m ≤ 16777216 → IntKind.i64.wrap ((c : Int) * m) = (c : Int) * m := fun m h1 h2 => by
    have h3 : (c : Int) * m ≤ 255 * 16777216 := Int.mul_le_mul (by omega) h2 (by omega) (by omega)
    have h4 : 0 ≤ (c : Int) * m := Int.mul_nonneg (by omega) (by omega)
    exact wrap64 (by omega) (by omega)
  rcases hj' with rfl | rfl | rfl | rfl
  · exact (key _ (by decide) (by decide)).trans (by simp)
  · exact (key _ (by decide) (by decide)).trans (by simp)
  · exact (key _ (by decide) (by decide)).trans (by simp)
  · exact (key _ (by decide) (by decide)).trans (by simp)

theorem or_add {x c j : Nat} (hx : x < 256 ^ j) (hc : c < 256) (hj : j < 4) : bitsOp .or .i64 (x : Int) ((c * 256 ^ j : Nat) : Int) = ((x + c * 256 ^ j : Nat) : Int) := by
  have h1 : 256 ^ j ≤ 256 ^ 3 := Nat.pow_le_pow_right (by decide) (by omega)
  have h2 : c * 256 ^ j ≤ 255 * 256 ^ 3 := Nat.mul_le_mul (by omega) h1
  have h3 : (255 * 256 ^ 3 : Nat) = 4278190080 := by decide
  have h4 : (256 ^ 3 : Nat) = 16777216 := by decide
  rw [or64 (by omega) (by omega)]
  have e : (256 ^ j : Nat) = 2 ^ (8 * j) := by rw [Nat.pow_mul]
  rw [Nat.or_comm, e, Nat.mul_comm c, ← Nat.two_pow_add_eq_or_of_lt (by rw [← e]; exact hx), Nat.add_comm]

theorem rd_l2 (s : List UInt8) (w : Int) (ws : List Int) (wl t27 : Int) (i : Nat) (bs : List UInt8) (hb : bs.length ≤ 4) : ∀ (k j : Nat) (values : List Int), j + k = bs.length → i < values.length → values.getD i 0 = (val (bs.take j) : Int) →
    loopO mould_Read.l2 (s, values, (i : Int), w, ws, wl, t27, bs.map (fun b => (b.toNat : Int)), ((bs.map (fun b => (b.toNat : Int))).length : Int), (j : Int)) = some (s, values.set i (val bs : Int), w, ws, wl, t27) := by
  intro k
  induction k with
  | zero =>
    intro j values hj hi hv
    refine loopO_inr ?_
    have h1 : ¬ ((j : Int) < ((bs.map (fun b => (b.toNat : Int))).length : Int)) := by simp; omega
    have h2 : values.set i (val bs : Int) = values := by
      rw [List.take_of_length_le (by omega), getD_lt hi] at hv
      rw [← hv]; exact List.set_getElem_self hi
    rw [h2]
    simp only [mould_Read.l2]
    rw [if_neg (by simpa using h1)]
  | succ k ih =>
    intro j values hj hi hv
    have hlt : j < bs.length := by omega
    have hg : (bs.map (fun b => (b.toNat : Int))).getD j 0 = (bs[j].toNat : Int) := by simp [List.getD, hlt]
    have hc : bs[j].toNat < 256 := bs[j].toNat_lt
    have hj1 : IntKind.i64.wrap ((j : Int) + 1) = ((j + 1 : Nat) : Int) := by rw [wrap64 (by omega) (by omega)]; rfl
    have h8 : IntKind.i64.wrap (8 * (j : Int)) = 8 * (j : Int) := wrap64 (by omega) (by omega)
    have hx : val (bs.take j) < 256 ^ j := by
      have := val_lt (bs.take j)
      rwa [List.length_take_of_le (by omega)] at this
    have hor := or_add hx hc (by omega)
    rw [← val_take_succ bs j hlt] at hor
    have step : mould_Read.l2 (s, values, (i : Int), w, ws, wl, t27, bs.map (fun b => (b.toNat : Int)), ((bs.map (fun b => (b.toNat : Int))).length : Int), (j : Int)) =
        some (.inl (s, values.set i (val (bs.take (j + 1)) : Int), (i : Int), w, ws, wl, t27, bs.map (fun b => (b.toNat : Int)), ((bs.map (fun b => (b.toNat : Int))).length : Int), ((j + 1 : Nat) : Int))) := by
      simp only [mould_Read.l2, Int.toNat_natCast, hg, hj1, hv, shl_is hc (show j < 4 by omega), hor]
      rw [if_pos (by simp; omega), if_pos (by simp; omega), if_pos (by omega), if_pos (by rw [h8]; omega), if_pos (by omega)]
    rw [loopO_inl step, ih (j + 1) _ (by omega) (by simpa using hi) (by simp [List.getD, hi])]
    simp

theorem rd_l1 (ws : List Int) (hl : ws.length < 1099511627) (hok : ws.all okW = true) : ∀ (k i : Nat) (s : List UInt8) (pre : List Int), i + k = ws.length → pre.length = i → (ws.drop i).sum ≤ s.length →
    loopO mould_Read.l1 (s, pre ++ List.replicate k 0, ws, (ws.length : Int), (i : Int)) = some (pre ++ rdS (ws.drop i) s) := by
  intro k
  induction k with
  | zero =>
    intro i s pre hi hp _
    refine loopO_inr ?_
    have h1 : ¬ ((i : Int) < (ws.length : Int)) := by omega
    have h2 : ws.drop i = [] := List.drop_eq_nil_of_le (by omega)
    simp [mould_Read.l1, h1, h2, rdS]
  | succ k ih =>
    intro i s pre hi hp hs
    have hlt : i < ws.length := by omega
    have hd : ws.drop i = ws[i] :: ws.drop (i + 1) := List.drop_eq_getElem_cons hlt
    have hg : ws.getD i 0 = ws[i] := getD_lt hlt
    have h1 : (i : Int) < (ws.length : Int) := by omega
    have hi1 : IntKind.i64.wrap ((i : Int) + 1) = ((i + 1 : Nat) : Int) := by rw [wrap64 (by omega) (by omega)]; rfl
    have hw : okW ws[i] = true := List.all_eq_true.1 hok _ (List.getElem_mem hlt)
    simp only [okW, Bool.or_eq_true, beq_iff_eq] at hw
    have hrest : (ws.drop (i + 1)).all okW = true := List.all_eq_true.2 fun x hx => List.all_eq_true.1 hok x (List.mem_of_mem_drop hx)
    have hsum := sum_bound _ hrest
    rw [hd, List.sum_cons] at hs
    have hwl : ws[i].toNat ≤ s.length := by omega
    have hlen : (pre ++ List.replicate (k + 1) (0 : Int)).length = ws.length := by simp; omega
    have hin := rd_l2 s ws[i] ws (ws.length : Int) (i : Int) i (s.take ws[i].toNat) (by simp; omega) (s.take ws[i].toNat).length 0 (pre ++ List.replicate (k + 1) 0) (by omega) (by omega) (by
      simp [List.getD, hp, val])
    rw [show (((0 : Nat) : Int)) = 0 from rfl] at hin
    have step : mould_Read.l1 (s, pre ++ List.replicate (k + 1) 0, ws, (ws.length : Int), (i : Int)) =
        some (.inl (s.drop ws[i].toNat, (pre ++ [(val (s.take ws[i].toNat) : Int)]) ++ List.replicate k 0, ws, (ws.length : Int), ((i + 1 : Nat) : Int))) := by
      simp only [mould_Read.l1, Int.toNat_natCast, hg, hin, Option.bind_some, hi1]
      rw [if_pos (by simpa using h1), if_pos (by omega), if_pos (by omega), if_pos (by omega)]
      congr 4
      rw [List.set_append_right _ _ (by omega)]
      simp [hp, List.replicate_succ]
    rw [loopO_inl step, ih (i + 1) _ _ (by omega) (by simp; omega) (by simp; omega), hd]
    simp [rdS]

def rd (ws : List Int) (s : List UInt8) : List Int × Int :=
  if ws.all okW = true then (if (s.length : Int) < ws.sum then ([], 2) else (rdS ws s, 0)) else ([], 1)

theorem mould_Read_is (ws : List Int) (s : List UInt8) (hl : ws.length < 1099511627) : mould_Read (ws, s) = some (rd ws s) := by
  unfold mould_Read rd
  simp only [mould_Size_is ws (by omega), Option.bind_some]
  by_cases hok : ws.all okW = true
  · have hneg : ¬ szI ws < 0 := fun h => (szI_neg ws).1 h hok
    have hsz : szI ws = ws.sum := if_pos hok
    rw [if_neg (by simp [hneg]), if_pos hok, hsz]
    by_cases hs : (s.length : Int) < ws.sum
    · rw [if_pos (by simpa using hs), if_pos hs]
    · rw [if_neg (by simpa using hs), if_neg hs]
      have := rd_l1 ws hl hok ws.length 0 s [] (by omega) rfl (by simp; omega)
      simp only [Int.ofNat_zero, List.drop_zero, List.nil_append] at this
      rw [if_pos (by omega), Int.toNat_natCast, this]
      rfl
  · have hneg : szI ws < 0 := (szI_neg ws).2 hok
    rw [if_pos (by simp [hneg]), if_neg hok]

theorem lives_is : wainwrightlaw01_lives () = some true := by
  unfold wainwrightlaw01_lives
  rw [mould_Write_is _ _ (by decide) (by decide)]
  have h1 : wr [1, 2] [5, 258] = ([5, 2, 1], 0) := by decide
  have h2 : rd [1, 2] [5, 2, 1] = ([5, 258], 0) := by decide
  simp only [h1, Option.bind_some]
  rw [mould_Read_is _ _ (by decide), h2]
  simp only [Option.bind_some]
  rw [mould_Size_is _ (by decide)]
  have h3 : szI [4, 1] = 5 := by decide
  rw [h3]
  decide

theorem MouldWrites_is (ws vs : List Int) (hl : ws.length < 1099511627) (hlv : vs.length < 1099511627) : wainwrightlaw01_MouldWrites (ws, vs) = some true := by
  unfold wainwrightlaw01_MouldWrites
  simp only [lives_is, Option.bind_some, mould_Write_is ws vs hl hlv, ref_Write_is ws vs hl hlv, mould_Size_is ws (by omega), ref_Size_is ws (by omega)]
  simp

theorem bulk_ints : ∀ (l : List Int), (l.map (bulk I)).sum = l.length
  | [] => rfl
  | x :: l => by
    have := bulk_ints l
    rw [List.map_cons, List.sum_cons, this, show bulk I x = 1 from rfl, List.length_cons]
    omega

theorem ints_len (l : List Int) : l.length < bulk (.sl I) l := by
  simp only [bulk]
  have := bulk_ints l
  show l.length < (l.map (bulk I)).sum + 1
  omega

theorem wainwrightlaw01_MouldWrites_row (x0 x1 : List Int) (_ : wfD (.sl I) x0) (_ : wfD (.sl I) x1) (hb : bulk (.sl I) x0 + bulk (.sl I) x1 ≤ 1048576) : wainwrightlaw01_MouldWrites (x0, x1) = some true := by
  have h0 := ints_len x0
  have h1 := ints_len x1
  exact MouldWrites_is x0 x1 (by omega) (by omega)

end Go.Proofs.Ytldmeogadmgkiaa.Abs
