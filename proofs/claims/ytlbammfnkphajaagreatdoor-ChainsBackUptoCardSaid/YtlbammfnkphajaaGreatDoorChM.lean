/- Chains: plain laws, fitted. -/
import Derived.Test.YtlbammfnkphajaaGreatDoorChE
import Derived.Test.YtlbammfnkphajaaGreatDoorAbsPlain
import Derived.Test.YtlbammfnkphajaaGreatDoorAbsLoops
namespace Go.Proofs.YtlbammfnkphajaaGreatDoor.Abs
open Go
set_option linter.unusedVariables false
attribute [-simp] List.getD_eq_getElem?_getD

abbrev Blk := List UInt8
abbrev Sl := (Int × Int) × List Blk × List (Int × Blk)

/-! ### Blocks -/

def wholeS (s : Blk) : Blk := s.take 128 ++ List.replicate (128 - (s.take 128).length) 0

theorem min128 (n : Nat) : (if 128 < (n : Int) then 128 else (n : Int)) = ((min 128 n : Nat) : Int) := by
  by_cases h : 128 < (n : Int)
  · rw [if_pos h]; omega
  · rw [if_neg h]; omega
theorem take128 (s : Blk) : s.take (min 128 s.length) = s.take 128 := by
  rw [← List.take_take, List.take_length]

theorem repL_one (b : UInt8) : ∀ n, Lib.repeatL [b] n = List.replicate n b
  | 0 => rfl
  | n + 1 => by rw [Lib.repeatL, repL_one b n, List.replicate_succ]; rfl

theorem pad_is (s : Blk) (h : s.length ≤ 128) : mould_Pad (s, 128) = some (s ++ List.replicate (128 - s.length) 0, 0) := by
  have hf : mould_fits (s, 128) = some 0 := by
    unfold mould_fits
    simp only
    rw [if_pos (by decide), Option.bind_some]
    simp only
    rw [if_neg (by decide), if_neg (by simp; omega)]
  unfold mould_Pad
  simp only
  rw [hf, Option.bind_some, if_neg (by decide), wrap64 (by omega) (by omega)]
  unfold strings_Repeat
  simp only
  rw [if_pos ⟨by omega, by omega, by simp; omega⟩, Option.bind_some, repL_one, if_pos (by simp; omega), show (128 - (s.length : Int)).toNat = 128 - s.length by omega]

theorem whole_is (s : Blk) : slab_whole s = some (wholeS s) := by
  unfold slab_whole
  rw [min128, if_pos (by omega), Int.toNat_natCast, take128, pad_is _ (by simp; omega), Option.bind_some]
  rfl

theorem refWhole_is (s : Blk) : rf02_Whole s = some (wholeS s) := by
  unfold rf02_Whole
  have hl : (s.take 128).length ≤ 128 := by simp; omega
  rw [min128, if_pos (by omega), Int.toNat_natCast, take128, wrap64 (by omega) (by omega)]
  unfold rf01_Zeros
  rw [if_pos ⟨by omega, by omega, by omega, by omega⟩, Option.bind_some, List.map_replicate, if_pos (by simp; omega), show (128 - ((s.take 128).length : Int)).toNat = 128 - (s.take 128).length by omega]
  rfl

/-! ### Loads -/

def firmS (image : List Blk) : List Blk := (image.take 1000).map wholeS

theorem min1000 (n : Nat) : (if 1000 < (n : Int) then 1000 else (n : Int)) = ((min 1000 n : Nat) : Int) := by
  by_cases h : 1000 < (n : Int)
  · rw [if_pos h]; omega
  · rw [if_neg h]; omega

theorem load_is (image : List Blk) : slab_Load image = some ((0, -1), firmS image, []) := by
  unfold slab_Load
  have ht : image.take (min 1000 image.length) = image.take 1000 := by rw [← List.take_take, List.take_length]
  rw [min1000, if_pos (by omega), Int.toNat_natCast, ht]
  have hl : (image.take 1000).length ≤ 1000 := by simp; omega
  unfold firmS
  generalize image.take 1000 = l at hl
  have := loop_run (f := slab_Load.l1) (fun i => (((0, -1), (l.take i).map wholeS, []), l, (l.length : Int), (i : Int))) (n := l.length) (r := ((0, -1), l.map wholeS, [])) (fun i hi => by
    unfold slab_Load.l1
    simp only
    rw [if_pos (by simpa using hi), if_pos (by omega), getD_nat, whole_is, Option.bind_some, if_pos (room (by decide) (by simp; omega)), wrap_succ (by omega), take_succ_getD hi [], List.map_append]
    rfl) (by unfold slab_Load.l1; simp)
  have e0 : ((((0 : Int), (-1 : Int)), ([] : List Blk), ([] : List (Int × Blk))), l, (l.length : Int), (0 : Int)) = (((0, -1), (l.take 0).map wholeS, []), l, (l.length : Int), ((0 : Nat) : Int)) := by simp
  rw [e0, this, Option.bind_some]

theorem clamp (n : Int) : (if 1000 < (if 0 > n then 0 else n) then 1000 else (if 0 > n then 0 else n)) = ((min 1000 n.toNat : Nat) : Int) := by
  by_cases h : 0 > n
  · rw [if_pos h, if_neg (by omega)]; omega
  · rw [if_neg h]
    by_cases h2 : 1000 < n
    · rw [if_pos h2]; omega
    · rw [if_neg h2]; omega

theorem new_is (n : Int) : slab_New n = some ((0, -1), List.replicate (min 1000 n.toNat) (wholeS []), []) := by
  unfold slab_New
  simp only [clamp]
  rw [if_pos (by first | omega | exact ⟨by omega, by omega, by omega, by omega⟩ | exact ⟨by omega, by omega, room (by decide) (by omega)⟩ | exact ⟨by omega, by omega, by omega, room (by decide) (by omega)⟩)]
  rw [Int.toNat_natCast, load_is, Option.bind_some]
  unfold firmS
  rw [List.take_of_length_le (by simp; omega), List.map_replicate]

abbrev Loo := List (Int × Blk)
def mg (es : Loo) (i : Int) : Option Blk := mget (K := .int .i64) (V := .str) es i
def mp (es : Loo) (i : Int) (b : Blk) : Loo := mput (K := .int .i64) (V := .str) es i b

theorem mg_nil (i : Int) : mg [] i = none := rfl
theorem mg_cons (e : Int × Blk) (es : Loo) (i : Int) : mg (e :: es) i = if i = e.1 then some e.2 else mg es i := by
  unfold mg mget
  rw [List.find?_cons]
  change (match (i == e.1) with | true => some e | false => _).map _ = _
  by_cases h : i = e.1
  · rw [if_pos h, beq_iff_eq.2 h]; rfl
  · rw [if_neg h, beq_eq_false_iff_ne.2 h]
theorem mp_cons (e : Int × Blk) (es : Loo) (i : Int) (b : Blk) : mp (e :: es) i b = if i = e.1 then (i, b) :: es else e :: mp es i b := by
  unfold mp
  rw [mput]
  change (if (i == e.1) = true then _ else _) = _
  by_cases h : i = e.1
  · rw [if_pos h, if_pos (beq_iff_eq.2 h)]
  · rw [if_neg h, if_neg (by simpa using h)]
theorem mp_len (i : Int) (b : Blk) : ∀ es : Loo, (mp es i b).length ≤ es.length + 1
  | [] => Nat.le_refl _
  | e :: es => by
    have := mp_len i b es
    rw [mp_cons]; split
    · simp
    · simp; omega
theorem mp_keys (i : Int) (b : Blk) : ∀ es : Loo, ∀ e ∈ mp es i b, e.1 = i ∨ e ∈ es
  | [], e, h => by
    have : e = (i, b) := by simpa [mp, mput] using h
    exact .inl (by rw [this])
  | q :: es, e, h => by
    rw [mp_cons] at h
    split at h
    · rcases List.mem_cons.1 h with rfl | h
      · exact .inl rfl
      · exact .inr (List.mem_cons_of_mem _ h)
    · rcases List.mem_cons.1 h with rfl | h
      · exact .inr (by simp)
      · rcases mp_keys i b es e h with h | h
        · exact .inl h
        · exact .inr (List.mem_cons_of_mem _ h)
theorem mg_some (i : Int) : ∀ es : Loo, (mg es i).isSome = true ↔ i ∈ es.map (·.1)
  | [] => by simp [mg_nil]
  | e :: es => by
    have := mg_some i es
    rw [mg_cons]
    by_cases h : i = e.1
    · rw [if_pos h]; simp [h]
    · rw [if_neg h, this]; simp [h]

/-! ### Images -/

def imageS (xs : List Blk) (es : Loo) : List Blk := xs.mapIdx fun i x => (mg es (i : Int)).getD x

/-- A slab as it can be: so many blocks, so many loose ones at most. -/
structure Okay (n m : Nat) (s : Sl) : Prop where
  firm : s.2.1.length = n
  room : n ≤ 1000 ∧ m ≤ 100000
  loose : s.2.2.length ≤ m
  keys : ∀ e ∈ s.2.2, 0 ≤ e.1 ∧ e.1 < (n : Int)
  calls : 0 ≤ s.1.1 ∧ s.1.1 ≤ (m : Int)
  till : -1 ≤ s.1.2 ∧ s.1.2 ≤ 1099511627776

def ksS (es : Loo) : List Int := isort (es.map (·.1))
/-! ### What is kept -/

def laid (xs : List Blk) (es : Loo) (ks : List Int) : Nat → List Blk
  | 0 => xs
  | t + 1 => (laid xs es ks t).set (ks.getD t 0).toNat ((mg es (ks.getD t 0)).getD [])
theorem Okay.ks {n m : Nat} {s : Sl} (h : Okay n m s) : (ksS s.2.2).length = s.2.2.length ∧ ∀ k ∈ ksS s.2.2, 0 ≤ k ∧ k < (n : Int) := by
  refine ⟨by unfold ksS; rw [(isort_perm _).length_eq, List.length_map], fun k hk => ?_⟩
  obtain ⟨e, he, rfl⟩ := List.mem_map.1 ((isort_perm _).mem_iff.1 hk)
  exact h.keys e he

/-! ### Calls -/

def callS (s : Sl) : Sl × Int := if s.1.2 = 0 then (((s.1.1 + 1, s.1.2), s.2), 14) else (((s.1.1 + 1, if s.1.2 > 0 then s.1.2 - 1 else s.1.2), s.2), 0)

theorem Okay.call {n m : Nat} {s : Sl} (h : Okay n m s) (hm : m < 100000) : slab_Slab_call s = some (callS s) ∧ Okay n (m + 1) (callS s).1 := by
  obtain ⟨⟨c, u⟩, xs, es⟩ := s
  have hc := h.calls
  have hu := h.till
  have hr := h.room
  simp only at hc hu
  constructor
  · unfold slab_Slab_call callS
    simp only
    by_cases h0 : u = 0
    · rw [if_pos (by simp [h0]), Option.bind_some, if_pos h0, wrap64 (by omega) (by omega)]
    · rw [if_neg (by simp [h0]), if_neg h0]
      by_cases h1 : u > 0
      · rw [if_pos (by simpa using h1), Option.bind_some, if_pos h1, wrap64 (n := u - 1) (by omega) (by omega)]
        simp only
        rw [wrap64 (by omega) (by omega)]
      · rw [if_neg (by simpa using h1), Option.bind_some, if_neg h1]
        simp only
        rw [wrap64 (by omega) (by omega)]
  · unfold callS
    split
    · exact ⟨h.firm, by omega, (by have := h.loose; simp only at this ⊢; omega), h.keys, by simp only; omega, h.till⟩
    · refine ⟨h.firm, by omega, (by have := h.loose; simp only at this ⊢; omega), h.keys, by simp only; omega, ?_⟩
      simp only
      split <;> omega

def writeS (s : Sl) (i : Int) (data : Blk) : Sl × Int :=
  if (callS s).2 ≠ 0 then callS s else
  if 0 ≤ i ∧ i < (s.2.1.length : Int) ∧ data.length ≤ 128 then (((callS s).1.1, s.2.1, mp s.2.2 i (wholeS data)), 0) else ((callS s).1, 1)

theorem callS_2 (s : Sl) : (callS s).1.2 = s.2 := by unfold callS; split <;> rfl

theorem Okay.write {n m : Nat} {s : Sl} (h : Okay n m s) (hm : m < 100000) (i : Int) (data : Blk) : slab_Slab_Write (s, i, data) = some (writeS s i data) ∧ Okay n (m + 1) (writeS s i data).1 := by
  obtain ⟨h1, h2⟩ := h.call hm
  have hf := h.firm
  obtain ⟨⟨c, u⟩, xs, es⟩ := s
  have e2 := callS_2 ((c, u), xs, es)
  simp only at hf e2
  constructor
  · unfold slab_Slab_Write writeS
    simp only
    rw [h1, Option.bind_some]
    generalize callS ((c, u), xs, es) = q at e2
    obtain ⟨⟨⟨c1, u1⟩, ys, fs⟩, e⟩ := q
    simp only [Prod.mk.injEq] at e2
    obtain ⟨rfl, rfl⟩ := e2
    simp only
    by_cases he : e = 0
    · rw [if_neg (show ¬ ((e != 0) = true) by simp [he]), if_neg (show ¬ (e ≠ 0) by simp [he])]
      have ht : slab_Slab_there ((ys, fs, c1, u1), i) = some (decide (0 ≤ i ∧ i < (ys.length : Int))) := by
        unfold slab_Slab_there
        simp only
        by_cases hi : i ≥ 0
        · rw [if_pos (by simpa using hi)]
          congr 1
          exact decide_eq_decide.2 ⟨fun q => ⟨hi, q⟩, fun q => q.2⟩
        · rw [if_neg (by simpa using hi), decide_eq_false (by omega)]
      rw [ht, Option.bind_some]
      by_cases hi : 0 ≤ i ∧ i < (ys.length : Int)
      · rw [decide_eq_true hi, if_pos (by rfl)]
        by_cases hd : data.length ≤ 128
        · rw [if_neg (show ¬ decide ((data.length : Int) > 128) = true by rw [decide_eq_true_eq]; omega), whole_is, Option.bind_some, if_pos ⟨hi.1, hi.2, hd⟩]
          rfl
        · rw [if_pos (show decide ((data.length : Int) > 128) = true by rw [decide_eq_true_eq]; omega), if_neg (fun q => hd q.2.2)]
      · rw [decide_eq_false hi, if_neg (by simp), if_neg (fun q => hi ⟨q.1, q.2.1⟩)]
    · rw [if_pos (show (e != 0) = true by simp [he]), if_pos he]
  · unfold writeS
    split
    · exact h2
    · split
      · rename_i hw
        refine ⟨by simp only; exact hf, h2.room, ?_, fun e he => ?_, h2.calls, h2.till⟩
        · have := mp_len i (wholeS data) es
          have := h.loose
          simp only at *
          omega
        · rcases mp_keys i (wholeS data) es e he with q | q
          · rw [q]; simp only at hw; omega
          · exact h.keys e q
      · exact h2

def flushS (s : Sl) : Sl × Int := if (callS s).2 = 0 then (((callS s).1.1, imageS s.2.1 s.2.2, []), 0) else callS s

def okW (w : Int) : Bool := w == 1 || w == 2 || w == 4
def szI (ws : List Int) : Int := if ws.all okW then ws.sum else -1

theorem sum_bound : ∀ (ws : List Int), ws.all okW = true → 0 ≤ ws.sum ∧ ws.sum ≤ 4 * ws.length
  | [], _ => by simp
  | w :: ws, h => by
    simp only [List.all_cons, Bool.and_eq_true] at h
    have := sum_bound ws h.2
    have h1 := h.1
    simp only [okW, Bool.or_eq_true, beq_iff_eq] at h1
    simp only [List.sum_cons, List.length_cons]
    omega

theorem size_l1 (ws : List Int) (hl : ws.length < 1099511627776) : ∀ (k i : Nat) (n : Int), i + k = ws.length → 0 ≤ n → n ≤ 4 * i →
    loopO mould_Size.l1 (n, ws, (ws.length : Int), (i : Int)) = some (if (ws.drop i).all okW then .inl (n + (ws.drop i).sum) else .inr (-1)) := by
  intro k
  induction k with
  | zero =>
    intro i n hi _ _
    refine loopO_inr ?_
    have h1 : ¬ ((i : Int) < (ws.length : Int)) := by omega
    have h2 : ws.drop i = [] := List.drop_eq_nil_of_le (by omega)
    simp [mould_Size.l1, h1, h2]
  | succ k ih =>
    intro i n hi hn hn2
    have hlt : i < ws.length := by omega
    have hd : ws.drop i = ws[i] :: ws.drop (i + 1) := List.drop_eq_getElem_cons hlt
    have hg : ws.getD i 0 = ws[i] := getD_lt hlt
    have h1 : (i : Int) < (ws.length : Int) := by omega
    have hi1 : IntKind.i64.wrap ((i : Int) + 1) = ((i + 1 : Nat) : Int) := by rw [wrap64 (by omega) (by omega)]; rfl
    by_cases hw : okW ws[i] = true
    · have hw' := hw
      simp only [okW, Bool.or_eq_true, beq_iff_eq] at hw'
      have hn1 : IntKind.i64.wrap (n + ws[i]) = n + ws[i] := wrap64 (by omega) (by omega)
      have step : mould_Size.l1 (n, ws, (ws.length : Int), (i : Int)) = some (.inl (n + ws[i], ws, (ws.length : Int), ((i + 1 : Nat) : Int))) := by
        rcases hw' with (h | h) | h <;> simp only [mould_Size.l1, Int.toNat_natCast, hg, hi1, hn1] <;> simp [h1, h]
      rw [loopO_inl step, ih (i + 1) (n + ws[i]) (by omega) (by omega) (by omega), hd]
      simp only [List.all_cons, hw, Bool.true_and, List.sum_cons]
      by_cases h : (ws.drop (i + 1)).all okW = true
      · rw [if_pos h, if_pos h, Int.add_assoc]
      · rw [if_neg h, if_neg h]
    · have hw' := hw
      simp only [okW, Bool.or_eq_true, beq_iff_eq, not_or] at hw'
      rw [hd]
      simp only [List.all_cons, hw, Bool.false_and]
      refine loopO_inr ?_
      simp only [mould_Size.l1, Int.toNat_natCast, hg]
      simp [h1, hw']

theorem mould_Size_is (ws : List Int) (hl : ws.length < 1099511627776) : mould_Size ws = some (szI ws) := by
  unfold mould_Size
  have := size_l1 ws hl ws.length 0 0 (by omega) (by omega) (by omega)
  simp only [Int.ofNat_zero, List.drop_zero, Int.zero_add] at this
  by_cases h : ws.all okW = true
  · rw [if_pos h] at this
    rw [this, szI, if_pos h]; rfl
  · rw [if_neg h] at this
    rw [this, szI, if_neg h]; rfl

/-! ### Records -/

def le : Nat → Int → List Int
  | 0, _ => []
  | n + 1, v => v % 256 :: le n (v / 256)

def lim (w : Int) : Int := if w = 1 then 255 else if w = 2 then 65535 else 4294967295

def enc : List Int → List Int → Option (List Int)
  | w :: ws, v :: vs => if v < 0 ∨ v > lim w then none else (enc ws vs).map (le w.toNat v ++ ·)
  | _, _ => some []

theorem le_len : ∀ (n : Nat) (v : Int), (le n v).length = n
  | 0, _ => rfl
  | n + 1, v => by simp [le, le_len n]

theorem wr_l2 (ws t : List Int) (tl i : Int) : ∀ (k : Nat) (b : List Int) (v : Int), 0 ≤ v → b.length + k < 1099511627776 →
    loopO mould_Write.l2 (b, ws, v, (k : Int), t, tl, i) = some (b ++ le k v, ws, t, tl, i)
  | 0, b, v, _, _ => by
    refine loopO_inr ?_
    simp [mould_Write.l2, le]
  | k + 1, b, v, hv, hb => by
    have h8 : Int.fdiv v (2 ^ 8) = v / 256 := by
      rw [Int.fdiv_eq_ediv_of_nonneg _ (by decide)]; rfl
    have hk : IntKind.i64.wrap (((k + 1 : Nat) : Int) - 1) = (k : Int) := by rw [wrap64 (by omega) (by omega)]; omega
    have hr : roomOk (b.length + ([v % 256] : List Int).length) 1 := room (by decide) (by simp; omega)
    have hpos : ((k + 1 : Nat) : Int) > 0 := by omega
    have step : mould_Write.l2 (b, ws, v, ((k + 1 : Nat) : Int), t, tl, i) = some (.inl (b ++ [v % 256], ws, v / 256, (k : Int), t, tl, i)) := by
      simp only [mould_Write.l2, h8, hk, wrapu8, if_pos hr, decide_eq_true hpos, if_true]
    rw [loopO_inl step, wr_l2 ws t tl i k (b ++ [v % 256]) (v / 256) (by omega) (by simp; omega)]
    simp [le]

theorem shr_lim (w v : Int) (hw : (w = 1 ∨ w = 2) ∨ w = 4) (hv : 0 ≤ v) : (Int.fdiv v (2 ^ (min (8 * w).toNat 64)) != 0) = decide (v > lim w) := by
  have key : ∀ (m l : Int), 0 < m → l = m - 1 → (Int.fdiv v m != 0) = decide (v > l) := by
    intro m l hm hl
    rw [Int.fdiv_eq_ediv_of_nonneg _ (by omega), Bool.eq_iff_iff]
    simp only [bne_iff_ne, ne_eq, decide_eq_true_eq]
    by_cases h : v < m
    · have := Int.ediv_eq_zero_of_lt hv h
      omega
    · have : 1 ≤ v / m := (Int.le_ediv_iff_mul_le hm).2 (by omega)
      omega
  rcases hw with (h | h) | h <;> subst h
  · exact key _ _ (by decide) (by decide)
  · exact key _ _ (by decide) (by decide)
  · exact key _ _ (by decide) (by decide)

theorem wr_l1 (ws vs : List Int) (hl : ws.length < 1099511627) (he : vs.length = ws.length) (hok : ws.all okW = true) : ∀ (k i : Nat) (b : List Int), i + k = ws.length → b.length ≤ 4 * i →
    loopO mould_Write.l1 (b, ws, vs, (vs.length : Int), (i : Int)) = some (match enc (ws.drop i) (vs.drop i) with | none => .inr ([], 3) | some e => .inl (b ++ e)) := by
  intro k
  induction k with
  | zero =>
    intro i b hi _
    refine loopO_inr ?_
    have h1 : ¬ ((i : Int) < (vs.length : Int)) := by omega
    have h2 : ws.drop i = [] := List.drop_eq_nil_of_le (by omega)
    simp [mould_Write.l1, h1, h2, enc]
  | succ k ih =>
    intro i b hi hb
    have hlt : i < ws.length := by omega
    have hlv : i < vs.length := by omega
    have hd : ws.drop i = ws[i] :: ws.drop (i + 1) := List.drop_eq_getElem_cons hlt
    have hdv : vs.drop i = vs[i] :: vs.drop (i + 1) := List.drop_eq_getElem_cons hlv
    have hg : ws.getD i 0 = ws[i] := getD_lt hlt
    have hgv : vs.getD i 0 = vs[i] := getD_lt hlv
    have h1 : (i : Int) < (ws.length : Int) := by omega
    have h1v : (i : Int) < (vs.length : Int) := by omega
    have hi1 : IntKind.i64.wrap ((i : Int) + 1) = ((i + 1 : Nat) : Int) := by rw [wrap64 (by omega) (by omega)]; rfl
    have hw : okW ws[i] = true := List.all_eq_true.1 hok _ (List.getElem_mem hlt)
    simp only [okW, Bool.or_eq_true, beq_iff_eq] at hw
    rw [hd, hdv]
    simp only [enc]
    have h8 : IntKind.i64.wrap (8 * ws[i]) = 8 * ws[i] := wrap64 (by omega) (by omega)
    by_cases hneg : vs[i] < 0
    · rw [if_pos (.inl hneg)]
      refine loopO_inr ?_
      simp only [mould_Write.l1, Int.toNat_natCast, hg, hgv]
      simp [h1, h1v, hneg]
    · have hfd : ∀ (m : Int), 0 < m → Int.fdiv vs[i] m = vs[i] / m := fun m hm => Int.fdiv_eq_ediv_of_nonneg _ (by omega)
      have hsh : (Int.fdiv vs[i] (2 ^ (min (8 * ws[i]).toNat 64)) != 0) = decide (vs[i] > lim ws[i]) := shr_lim ws[i] vs[i] hw (by omega)
      by_cases hbig : vs[i] > lim ws[i]
      · rw [if_pos (.inr hbig)]
        refine loopO_inr ?_
        simp only [mould_Write.l1, Int.toNat_natCast, hg, hgv, h8, hsh]
        have : 0 ≤ 8 * ws[i] := by omega
        simp [h1, h1v, hneg, hbig, this]
      · rw [if_neg (by omega)]
        have hwn : ws[i] = ((ws[i].toNat : Nat) : Int) := by omega
        have hin := wr_l2 ws vs (vs.length : Int) (i : Int) ws[i].toNat b vs[i] (by omega) (by omega)
        rw [← hwn] at hin
        have step : mould_Write.l1 (b, ws, vs, (vs.length : Int), (i : Int)) = some (.inl (b ++ le ws[i].toNat vs[i], ws, vs, (vs.length : Int), ((i + 1 : Nat) : Int))) := by
          simp only [mould_Write.l1, Int.toNat_natCast, hg, hgv, h8, hsh, hin, Option.bind_some, hi1]
          have : 0 ≤ 8 * ws[i] := by omega
          simp [h1, h1v, hneg, hbig, this]
        rw [loopO_inl step, ih (i + 1) _ (by omega) (by simp [le_len]; omega)]
        cases enc (ws.drop (i + 1)) (vs.drop (i + 1)) <;> simp

def u8s (l : List Int) : List UInt8 := l.map fun (n : Int) => UInt8.ofNat n.toNat

def wr (ws vs : List Int) : List UInt8 × Int :=
  if ws.all okW = true ∧ ws.length = vs.length then (match enc ws vs with | none => ([], 3) | some e => (u8s e, 0)) else ([], 1)

theorem szI_neg (ws : List Int) : szI ws < 0 ↔ ¬ ws.all okW = true := by
  unfold szI
  split
  · rename_i h
    have := (sum_bound ws h).1
    constructor
    · omega
    · intro h2; exact absurd h h2
  · rename_i h
    simp [h]

theorem mould_Write_is (ws vs : List Int) (hl : ws.length < 1099511627) (_hlv : vs.length < 1099511627) : mould_Write (ws, vs) = some (wr ws vs) := by
  unfold mould_Write wr
  simp only [mould_Size_is ws (by omega), Option.bind_some]
  by_cases hok : ws.all okW = true
  · have hneg : ¬ szI ws < 0 := fun h => (szI_neg ws).1 h hok
    have hsz : szI ws = ws.sum := if_pos hok
    have hb := sum_bound ws hok
    rw [if_pos (by simp [hneg])]
    by_cases he : ws.length = vs.length
    · rw [if_neg (by simp [he]), if_pos (And.intro hok he)]
      have := wr_l1 ws vs hl he.symm hok ws.length 0 [] (by omega) (by simp)
      simp only [Int.ofNat_zero, List.drop_zero] at this
      rw [if_pos (by rw [hsz]; omega)]
      simp only [List.replicate_zero]
      rw [this]
      cases enc ws vs <;> simp [u8s]
    · rw [if_pos (by simp; omega), if_neg (by simp [he])]
  · have hneg : szI ws < 0 := (szI_neg ws).2 hok
    rw [if_neg (by simp [hneg]), if_neg (by simp [hok])]

def val : List UInt8 → Nat
  | [] => 0
  | b :: r => b.toNat + 256 * val r

def rdS : List Int → List UInt8 → List Int
  | w :: ws, s => (val (s.take w.toNat) : Int) :: rdS ws (s.drop w.toNat)
  | [], _ => []

theorem val_take_succ : ∀ (l : List UInt8) (j : Nat) (h : j < l.length), val (l.take (j + 1)) = val (l.take j) + l[j].toNat * 256 ^ j
  | b :: r, 0, _ => by simp [val]
  | b :: r, j + 1, h => by
    have h' : j < r.length := by simpa using h
    have := val_take_succ r j h'
    simp only [List.take_succ_cons, val, this, List.getElem_cons_succ, Nat.pow_succ, Nat.mul_add]
    have e : 256 * (r[j].toNat * 256 ^ j) = r[j].toNat * (256 ^ j * 256) := by
      rw [Nat.mul_comm 256, Nat.mul_assoc]
    omega

theorem val_lt : ∀ (l : List UInt8), val l < 256 ^ l.length
  | [] => by simp [val]
  | b :: r => by
    have := val_lt r
    have hb : b.toNat < 256 := b.toNat_lt
    simp only [val, List.length_cons, Nat.pow_succ]
    omega

theorem shl_is {c j : Nat} (hc : c < 256) (hj : j < 4) : IntKind.i64.wrap (IntKind.i64.wrap (c : Int) * 2 ^ (min (IntKind.i64.wrap (8 * (j : Int))).toNat 64)) = ((c * 256 ^ j : Nat) : Int) := by
  rw [wrap64 (n := (c : Int)) (by omega) (by omega), wrap64 (n := 8 * (j : Int)) (by omega) (by omega)]
  have hj' : j = 0 ∨ j = 1 ∨ j = 2 ∨ j = 3 := by omega
  have key : ∀ m : Int, 0 < m → m ≤ 16777216 → IntKind.i64.wrap ((c : Int) * m) = (c : Int) * m := fun m h1 h2 => by
    have h3 : (c : Int) * m ≤ 255 * 16777216 := Int.mul_le_mul (by omega) h2 (by omega) (by omega)
    have h4 : 0 ≤ (c : Int) * m := Int.mul_nonneg (by omega) (by omega)
    exact wrap64 (by omega) (by omega)
  rcases hj' with rfl | rfl | rfl | rfl
  · exact (key _ (by decide) (by decide)).trans (by simp)
  · exact (key _ (by decide) (by decide)).trans (by simp)
  · exact (key _ (by decide) (by decide)).trans (by simp)
  · exact (key _ (by decide) (by decide)).trans (by simp)

theorem or_add {x c j : Nat} (hx : x < 256 ^ j) (hc : c < 256) (hj : j < 4) : bitsOp .or .i64 (x : Int) ((c * 256 ^ j : Nat) : Int) = ((x + c * 256 ^ j : Nat) : Int) := by
  have h1 : 256 ^ j ≤ 256 ^ 3 := Nat.pow_le_pow_right (by decide) (by omega)
  have h2 : c * 256 ^ j ≤ 255 * 256 ^ 3 := Nat.mul_le_mul (by omega) h1
  have h3 : (255 * 256 ^ 3 : Nat) = 4278190080 := by decide
  have h4 : (256 ^ 3 : Nat) = 16777216 := by decide
  rw [or64 (by omega) (by omega)]
  have e : (256 ^ j : Nat) = 2 ^ (8 * j) := by rw [Nat.pow_mul]
  rw [Nat.or_comm, e, Nat.mul_comm c, ← Nat.two_pow_add_eq_or_of_lt (by rw [← e]; exact hx), Nat.add_comm]

theorem rd_l2 (s : List UInt8) (w : Int) (ws : List Int) (wl t27 : Int) (i : Nat) (bs : List UInt8) (hb : bs.length ≤ 4) : ∀ (k j : Nat) (values : List Int), j + k = bs.length → i < values.length → values.getD i 0 = (val (bs.take j) : Int) →
    loopO mould_Read.l2 (values, s, (i : Int), w, ws, wl, t27, bs.map (fun b => (b.toNat : Int)), ((bs.map (fun b => (b.toNat : Int))).length : Int), (j : Int)) = some (values.set i (val bs : Int), s, w, ws, wl, t27) := by
  intro k
  induction k with
  | zero =>
    intro j values hj hi hv
    refine loopO_inr ?_
    have h1 : ¬ ((j : Int) < ((bs.map (fun b => (b.toNat : Int))).length : Int)) := by simp; omega
    have h2 : values.set i (val bs : Int) = values := by
      rw [List.take_of_length_le (by omega), getD_lt hi] at hv
      rw [← hv]; exact List.set_getElem_self hi
    rw [h2]
    simp only [mould_Read.l2]
    rw [if_neg (by simpa using h1)]
  | succ k ih =>
    intro j values hj hi hv
    have hlt : j < bs.length := by omega
    have hg : (bs.map (fun b => (b.toNat : Int))).getD j 0 = (bs[j].toNat : Int) := by simp [List.getD, hlt]
    have hc : bs[j].toNat < 256 := bs[j].toNat_lt
    have hj1 : IntKind.i64.wrap ((j : Int) + 1) = ((j + 1 : Nat) : Int) := by rw [wrap64 (by omega) (by omega)]; rfl
    have h8 : IntKind.i64.wrap (8 * (j : Int)) = 8 * (j : Int) := wrap64 (by omega) (by omega)
    have hx : val (bs.take j) < 256 ^ j := by
      have := val_lt (bs.take j)
      rwa [List.length_take_of_le (by omega)] at this
    have hor := or_add hx hc (by omega)
    rw [← val_take_succ bs j hlt] at hor
    have step : mould_Read.l2 (values, s, (i : Int), w, ws, wl, t27, bs.map (fun b => (b.toNat : Int)), ((bs.map (fun b => (b.toNat : Int))).length : Int), (j : Int)) =
        some (.inl (values.set i (val (bs.take (j + 1)) : Int), s, (i : Int), w, ws, wl, t27, bs.map (fun b => (b.toNat : Int)), ((bs.map (fun b => (b.toNat : Int))).length : Int), ((j + 1 : Nat) : Int))) := by
      simp only [mould_Read.l2, Int.toNat_natCast, hg, hj1, hv, shl_is hc (show j < 4 by omega), hor]
      rw [if_pos (by simp; omega), if_pos (by simp; omega), if_pos (by omega), if_pos (by rw [h8]; omega), if_pos (by omega)]
    rw [loopO_inl step, ih (j + 1) _ (by omega) (by simpa using hi) (by simp [List.getD, hi])]
    simp

theorem rd_l1 (ws : List Int) (hl : ws.length < 1099511627) (hok : ws.all okW = true) : ∀ (k i : Nat) (s : List UInt8) (pre : List Int), i + k = ws.length → pre.length = i → (ws.drop i).sum ≤ s.length →
    loopO mould_Read.l1 (pre ++ List.replicate k 0, s, ws, (ws.length : Int), (i : Int)) = some (pre ++ rdS (ws.drop i) s) := by
  intro k
  induction k with
  | zero =>
    intro i s pre hi hp _
    refine loopO_inr ?_
    have h1 : ¬ ((i : Int) < (ws.length : Int)) := by omega
    have h2 : ws.drop i = [] := List.drop_eq_nil_of_le (by omega)
    simp [mould_Read.l1, h1, h2, rdS]
  | succ k ih =>
    intro i s pre hi hp hs
    have hlt : i < ws.length := by omega
    have hd : ws.drop i = ws[i] :: ws.drop (i + 1) := List.drop_eq_getElem_cons hlt
    have hg : ws.getD i 0 = ws[i] := getD_lt hlt
    have h1 : (i : Int) < (ws.length : Int) := by omega
    have hi1 : IntKind.i64.wrap ((i : Int) + 1) = ((i + 1 : Nat) : Int) := by rw [wrap64 (by omega) (by omega)]; rfl
    have hw : okW ws[i] = true := List.all_eq_true.1 hok _ (List.getElem_mem hlt)
    simp only [okW, Bool.or_eq_true, beq_iff_eq] at hw
    have hrest : (ws.drop (i + 1)).all okW = true := List.all_eq_true.2 fun x hx => List.all_eq_true.1 hok x (List.mem_of_mem_drop hx)
    have hsum := sum_bound _ hrest
    rw [hd, List.sum_cons] at hs
    have hwl : ws[i].toNat ≤ s.length := by omega
    have hlen : (pre ++ List.replicate (k + 1) (0 : Int)).length = ws.length := by simp; omega
    have hin := rd_l2 s ws[i] ws (ws.length : Int) (i : Int) i (s.take ws[i].toNat) (by simp; omega) (s.take ws[i].toNat).length 0 (pre ++ List.replicate (k + 1) 0) (by omega) (by omega) (by
      simp [List.getD, hp, val])
    rw [show (((0 : Nat) : Int)) = 0 from rfl] at hin
    have step : mould_Read.l1 (pre ++ List.replicate (k + 1) 0, s, ws, (ws.length : Int), (i : Int)) =
        some (.inl ((pre ++ [(val (s.take ws[i].toNat) : Int)]) ++ List.replicate k 0, s.drop ws[i].toNat, ws, (ws.length : Int), ((i + 1 : Nat) : Int))) := by
      simp only [mould_Read.l1, Int.toNat_natCast, hg, hin, Option.bind_some, hi1]
      rw [if_pos (by simpa using h1), if_pos (by omega), if_pos (by omega), if_pos (by omega)]
      congr 4
      rw [List.set_append_right _ _ (by omega)]
      simp [hp, List.replicate_succ]
    rw [loopO_inl step, ih (i + 1) _ _ (by omega) (by simp; omega) (by simp; omega), hd]
    simp [rdS]

def rd (ws : List Int) (s : List UInt8) : List Int × Int :=
  if ws.all okW = true then (if (s.length : Int) < ws.sum then ([], 2) else (rdS ws s, 0)) else ([], 1)

theorem mould_Read_is (ws : List Int) (s : List UInt8) (hl : ws.length < 1099511627) : mould_Read (ws, s) = some (rd ws s) := by
  unfold mould_Read rd
  simp only [mould_Size_is ws (by omega), Option.bind_some]
  by_cases hok : ws.all okW = true
  · have hneg : ¬ szI ws < 0 := fun h => (szI_neg ws).1 h hok
    have hsz : szI ws = ws.sum := if_pos hok
    rw [if_neg (by simp [hneg]), if_pos hok, hsz]
    by_cases hs : (s.length : Int) < ws.sum
    · rw [if_pos (by simpa using hs), if_pos hs]
    · rw [if_neg (by simpa using hs), if_neg hs]
      have := rd_l1 ws hl hok ws.length 0 s [] (by omega) rfl (by simp; omega)
      simp only [Int.ofNat_zero, List.drop_zero, List.nil_append] at this
      rw [if_pos (by omega), Int.toNat_natCast, this]
      rfl
  · have hneg : szI ws < 0 := (szI_neg ws).2 hok
    rw [if_pos (by simp [hneg]), if_neg hok]

theorem rdS_len : ∀ (ws : List Int) (s : List UInt8), (rdS ws s).length = ws.length
  | [], _ => rfl
  | w :: ws, s => by simp [rdS, rdS_len ws]

theorem u8s_app (a b : List Int) : u8s (a ++ b) = u8s a ++ u8s b := by simp [u8s]

theorem lim_pow (w : Int) (hw : okW w = true) : lim w = ((256 ^ w.toNat : Nat) : Int) - 1 := by
  simp only [okW, Bool.or_eq_true, beq_iff_eq] at hw
  rcases hw with (h | h) | h <;> subst h <;> decide

theorem u8_of (v : Int) (h : 0 ≤ v) : (UInt8.ofNat (v % 256).toNat).toNat = (v % 256).toNat := by
  rw [UInt8.toNat_ofNat']
  exact Nat.mod_eq_of_lt (by omega)

theorem val_le : ∀ (n : Nat) (v : Int), 0 ≤ v → v < ((256 ^ n : Nat) : Int) → (val (u8s (le n v)) : Int) = v
  | 0, v, h1, h2 => by
    simp at h2
    simp [le, u8s, val]; omega
  | n + 1, v, h1, h2 => by
    have hp : (256 ^ (n + 1) : Nat) = 256 ^ n * 256 := by rw [Nat.pow_succ]
    have ih := val_le n (v / 256) (by omega) (by omega)
    have hu := u8_of v h1
    simp only [u8s] at ih
    simp only [le, u8s, List.map_cons, val, hu]
    omega

theorem le_val : ∀ (l : List UInt8), u8s (le l.length (val l : Int)) = l
  | [] => rfl
  | b :: r => by
    have ih := le_val r
    have hb : b.toNat < 256 := b.toNat_lt
    simp only [u8s] at ih
    simp only [List.length_cons, le, u8s, List.map_cons, val]
    have e1 : (((b.toNat + 256 * val r : Nat) : Int) % 256).toNat = b.toNat := by omega
    have e2 : ((b.toNat + 256 * val r : Nat) : Int) / 256 = (val r : Int) := by omega
    rw [e1, e2, ih]
    simp

theorem u8s_len (l : List Int) : (u8s l).length = l.length := by simp [u8s]

theorem rdS_enc : ∀ (ws vs e : List Int) (more : List UInt8), ws.all okW = true → ws.length = vs.length → enc ws vs = some e → rdS ws (u8s e ++ more) = vs
  | [], [], e, more, _, _, _ => rfl
  | [], _ :: _, _, _, _, h, _ => by simp at h
  | _ :: _, [], _, _, _, h, _ => by simp at h
  | w :: ws, v :: vs, e, more, hok, hl, h => by
    simp only [List.all_cons, Bool.and_eq_true] at hok
    simp only [enc] at h
    split at h
    · cases h
    · rename_i hv
      simp only [Option.map_eq_some_iff] at h
      obtain ⟨e2, h2, rfl⟩ := h
      have ih := rdS_enc ws vs e2 more hok.2 (by simpa using hl) h2
      have hlim := lim_pow w hok.1
      have e1 : (u8s (le w.toNat v ++ e2) ++ more).take w.toNat = u8s (le w.toNat v) := by
        rw [u8s_app, List.append_assoc, List.take_append_of_le_length (by simp [u8s, le_len]), List.take_of_length_le (by simp [u8s, le_len])]
      have e3 : (u8s (le w.toNat v ++ e2) ++ more).drop w.toNat = u8s e2 ++ more := by
        rw [u8s_app, List.append_assoc, List.drop_append_of_le_length (by simp [u8s, le_len]), List.drop_of_length_le (by simp [u8s, le_len])]
        rfl
      simp only [rdS, e1, e3, ih]
      rw [val_le w.toNat v (by omega) (by omega)]

theorem enc_rdS : ∀ (ws : List Int) (s : List UInt8), ws.all okW = true → ws.sum ≤ s.length → ∃ e, enc ws (rdS ws s) = some e ∧ u8s e = s.take ws.sum.toNat
  | [], s, _, _ => ⟨[], rfl, by simp [u8s]⟩
  | w :: ws, s, hok, hs => by
    simp only [List.all_cons, Bool.and_eq_true] at hok
    have hsum := sum_bound ws hok.2
    have hw := hok.1
    simp only [okW, Bool.or_eq_true, beq_iff_eq] at hw
    simp only [List.sum_cons] at hs
    obtain ⟨e, h1, h2⟩ := enc_rdS ws (s.drop w.toNat) hok.2 (by simp; omega)
    have hlim := lim_pow w hok.1
    have hlen : (s.take w.toNat).length = w.toNat := by simp; omega
    have hv := val_lt (s.take w.toNat)
    rw [hlen] at hv
    refine ⟨le w.toNat (val (s.take w.toNat) : Int) ++ e, ?_, ?_⟩
    · simp only [rdS, enc]
      rw [if_neg (by omega), h1]
      rfl
    · have h3 := le_val (s.take w.toNat)
      rw [hlen] at h3
      rw [u8s_app, h3, h2, List.sum_cons, show (w + ws.sum).toNat = w.toNat + ws.sum.toNat by omega, List.take_add]

abbrev Sp := Int × Int × Int
abbrev Card := Int × Int × Int × Int × List Int × Int × Int × List Sp × Int

abbrev Card4 := List Int × Int × Int × List Sp × Int
set_option synthInstance.maxSize 2000 in
set_option synthInstance.maxHeartbeats 400000 in
instance dec4 : DecidableEq Card4 := inferInstance
instance dec9 : DecidableEq Card := @instDecidableEqProd _ _ _ (@instDecidableEqProd _ _ _ (@instDecidableEqProd _ _ _ (@instDecidableEqProd _ _ _ dec4)))

theorem all_of {n : Nat} {f : Nat → Bool} {j : Nat} (h1 : j ≤ n) (h2 : ∀ i, i < j → f i = true) (h3 : j < n → f j = false) : (List.range n).all f = decide (j = n) := by
  by_cases hj : j = n
  · subst hj
    rw [decide_eq_true rfl, List.all_eq_true]
    exact fun i hi => h2 i (List.mem_range.1 hi)
  · rw [decide_eq_false hj, List.all_eq_false]
    exact ⟨j, List.mem_range.2 (by omega), by rw [h3 (by omega)]; simp⟩

theorem getD_get {α : Type} {l : List α} {i : Nat} (h : i < l.length) (d : α) : l.getD i d = l[i] := by simp [List.getD, h]

theorem eq_of_getD {α : Type} (d : α) {a b : List α} (hl : a.length = b.length) (h : ∀ i, i < a.length → a.getD i d = b.getD i d) : a = b := by
  apply List.ext_getElem hl
  intro i h1 h2
  have := h i h1
  rw [getD_get h1, getD_get h2] at this
  exact this

theorem neq_sp (a b : Sp) : (!((a.1 == b.1) && ((a.2.1 == b.2.1) && (a.2.2 == b.2.2)))) = !decide (a = b) := by
  obtain ⟨a1, a2, a3⟩ := a
  obtain ⟨b1, b2, b3⟩ := b
  congr 1
  rw [Bool.eq_iff_iff]
  simp only [Bool.and_eq_true, beq_iff_eq, decide_eq_true_eq, Prod.mk.injEq]

theorem equal_is (a b : List Int) (hl : a.length < 1099511627776) : slices_Equal_int_int (a, b) = some (decide (a = b)) := by
  unfold slices_Equal_int_int
  dsimp only
  by_cases he : a.length = b.length
  · rw [if_neg (by simp [he])]
    obtain ⟨j, _, hj, hb, hs, hrun⟩ := loop_first (f := slices_Equal_int_int.l1) (fun k => (a, b, (a.length : Int), (k : Int))) (fun k => a.getD k 0 != b.getD k 0) (n := a.length)
      (r := fun k => if k < a.length then .inr false else .inl ()) a.length 0 (by omega) (fun k _ hk => by
        unfold slices_Equal_int_int.l1
        dsimp only
        rw [if_pos (by simp; omega), if_pos (by omega), if_pos (by omega), Int.toNat_natCast, if_pos hk, wrap_succ (by omega)]) (by
        unfold slices_Equal_int_int.l1
        dsimp only
        rw [if_neg (by simp), if_neg (by omega)])
    have hrun : loopO slices_Equal_int_int.l1 (a, b, (a.length : Int), 0) = _ := hrun
    rw [hrun]
    by_cases hjl : j < a.length
    · rw [if_pos hjl]
      have h1 := hs hjl
      have : a ≠ b := fun h => by rw [h] at h1; simp at h1
      simp [this]
    · rw [if_neg hjl]
      have : a = b := eq_of_getD 0 he fun i hi => by
        have := hb i (Nat.zero_le _) (by omega)
        simpa using this
      simp [this]
  · rw [if_pos (by simp; omega)]
    have : a ≠ b := fun h => he (by rw [h])
    simp [this]

theorem refSame_is (a b : List Int) (hl : a.length < 1099511627776) : rf01_Same (a, b) = some (decide (a = b)) := by
  unfold rf01_Same
  dsimp only
  by_cases he : a.length = b.length
  · rw [if_neg (by simp [he])]
    obtain ⟨j, _, hj, hb, hs, hrun⟩ := loop_first (f := rf01_Same.l1) (fun k => (a, b, (k : Int))) (fun k => a.getD k 0 != b.getD k 0) (n := a.length)
      (r := fun k => if k < a.length then .inr false else .inl ()) a.length 0 (by omega) (fun k _ hk => by
        unfold rf01_Same.l1
        dsimp only
        rw [if_pos (by simp; omega), if_pos (by omega), if_pos (by omega), Int.toNat_natCast, if_pos hk, wrap_succ (by omega)]) (by
        unfold rf01_Same.l1
        dsimp only
        rw [if_neg (by simp), if_neg (by omega)])
    have hrun : loopO rf01_Same.l1 (a, b, 0) = _ := hrun
    rw [hrun]
    by_cases hjl : j < a.length
    · rw [if_pos hjl]
      have h1 := hs hjl
      have : a ≠ b := fun h => by rw [h] at h1; simp at h1
      simp [this]
    · rw [if_neg hjl]
      have : a = b := eq_of_getD 0 he fun i hi => by
        have := hb i (Nat.zero_le _) (by omega)
        simpa using this
      simp [this]
  · rw [if_pos (by simp; omega)]
    have : a ≠ b := fun h => he (by rw [h])
    simp [this]

theorem span_is (a b : List Sp) (hl : a.length < 1099511627776) : api_Span (a, b) = some (decide (a = b)) := by
  unfold api_Span
  dsimp only
  by_cases he : a.length = b.length
  · rw [if_neg (by simp [he])]
    obtain ⟨j, _, hj, hb, hs, hrun⟩ := loop_first (f := api_Span.l1) (fun k => (a, b, (a.length : Int), (k : Int))) (fun k => !decide (a.getD k (0, 0, 0) = b.getD k (0, 0, 0))) (n := a.length)
      (r := fun k => if k < a.length then .inr false else .inl ()) a.length 0 (by omega) (fun k _ hk => by
        unfold api_Span.l1
        dsimp only
        rw [if_pos (by simp; omega), if_pos (by omega), if_pos (by omega), Int.toNat_natCast, if_pos hk, wrap_succ (by omega), neq_sp (a.getD k (0, 0, 0)) (b.getD k (0, 0, 0))]) (by
        unfold api_Span.l1
        dsimp only
        rw [if_neg (by simp), if_neg (by omega)])
    have hrun : loopO api_Span.l1 (a, b, (a.length : Int), 0) = _ := hrun
    rw [hrun]
    by_cases hjl : j < a.length
    · rw [if_pos hjl]
      have h1 := hs hjl
      have : a ≠ b := fun h => by rw [h] at h1; simp at h1
      simp [this]
    · rw [if_neg hjl]
      have : a = b := eq_of_getD (0, 0, 0) he fun i hi => by
        have := hb i (Nat.zero_le _) (by omega)
        simpa using this
      simp [this]
  · rw [if_pos (by simp; omega)]
    have : a ≠ b := fun h => he (by rw [h])
    simp [this]

theorem refSpan_is (a b : List Sp) (hl : a.length < 1099511627776) : rf04_Same (a, b) = some (decide (a = b)) := by
  unfold rf04_Same
  dsimp only
  by_cases he : a.length = b.length
  · rw [if_neg (by simp [he])]
    obtain ⟨j, _, hj, hb, hs, hrun⟩ := loop_first (f := rf04_Same.l1) (fun k => (a, b, (k : Int))) (fun k => !decide (a.getD k (0, 0, 0) = b.getD k (0, 0, 0))) (n := a.length)
      (r := fun k => if k < a.length then .inr false else .inl ()) a.length 0 (by omega) (fun k _ hk => by
        unfold rf04_Same.l1
        dsimp only
        rw [if_pos (by simp; omega), if_pos (by omega), if_pos (by omega), Int.toNat_natCast, if_pos hk, wrap_succ (by omega), neq_sp (a.getD k (0, 0, 0)) (b.getD k (0, 0, 0))]) (by
        unfold rf04_Same.l1
        dsimp only
        rw [if_neg (by simp), if_neg (by omega)])
    have hrun : loopO rf04_Same.l1 (a, b, 0) = _ := hrun
    rw [hrun]
    by_cases hjl : j < a.length
    · rw [if_pos hjl]
      have h1 := hs hjl
      have : a ≠ b := fun h => by rw [h] at h1; simp at h1
      simp [this]
    · rw [if_neg hjl]
      have : a = b := eq_of_getD (0, 0, 0) he fun i hi => by
        have := hb i (Nat.zero_le _) (by omega)
        simpa using this
      simp [this]
  · rw [if_pos (by simp; omega)]
    have : a ≠ b := fun h => he (by rw [h])
    simp [this]

/-- Not too long for any machine. -/
def lenC (c : Card) : Prop := c.2.2.2.2.1.length < 1099511627776 ∧ c.2.2.2.2.2.2.2.1.length < 1099511627776

theorem same_is (a b : Card) (h : lenC a) : cards_Same (a, b) = some (decide (a = b)) := by
  obtain ⟨a1, a2, a3, a4, a5, a6, a7, a8, a9⟩ := a
  obtain ⟨b1, b2, b3, b4, b5, b6, b7, b8, b9⟩ := b
  obtain ⟨h1, h2⟩ := h
  simp only at h1 h2
  unfold cards_Same
  dsimp only
  rw [equal_is a5 b5 h1]
  simp only [Option.bind_some]
  by_cases q5 : a5 = b5
  · subst q5
    rw [if_pos (by simp), span_is a8 b8 h2]
    simp only [Option.bind_some]
    by_cases q8 : a8 = b8
    · subst q8
      rw [if_neg (by simp)]
      unfold cards_plain
      simp only [Option.bind_some]
      congr 1
      rw [Bool.eq_iff_iff]
      simp only [Bool.and_eq_true, beq_iff_eq, decide_eq_true_eq, Prod.mk.injEq, true_and, and_true]
    · rw [if_pos (by simp [q8])]
      simp [q8]
  · rw [if_neg (by simp [q5])]
    simp [q5]

theorem refCSame_is (a b : Card) (h : lenC a) : rf09_Same (a, b) = some (decide (a = b)) := by
  obtain ⟨a1, a2, a3, a4, a5, a6, a7, a8, a9⟩ := a
  obtain ⟨b1, b2, b3, b4, b5, b6, b7, b8, b9⟩ := b
  obtain ⟨h1, h2⟩ := h
  simp only at h1 h2
  unfold rf09_Same
  dsimp only
  rw [refSame_is a5 b5 h1, refSpan_is a8 b8 h2]
  simp only [Option.bind_some]
  by_cases q1 : a1 = b1 <;> by_cases q2 : a2 = b2 <;> by_cases q3 : a3 = b3 <;> by_cases q4 : a4 = b4 <;> by_cases q5 : a5 = b5 <;> by_cases q6 : a6 = b6 <;> by_cases q7 : a7 = b7 <;> by_cases q8 : a8 = b8 <;> simp [q1, q2, q3, q4, q5, q6, q7, q8] <;> rfl

/-! ### Runs -/

def okS (s : Sp) : Bool := decide (0 ≤ s.1 ∧ 1 ≤ s.2.1 ∧ 1 ≤ s.2.2 ∧ s.2.2 < 65536 ∧ s.1 + s.2.2 ≤ 65536 ∧ s.2.1 + s.2.2 ≤ 65536)
def nextOk (a b : Sp) : Bool := decide (a.1 + a.2.2 ≤ b.1 ∧ ¬ (a.1 + a.2.2 = b.1 ∧ a.2.1 + a.2.2 = b.2.1))
def sp0 : Sp := (0, 0, 0)
def okAt (l : List Sp) (k : Nat) : Bool := okS (l.getD k sp0) && (decide (k = 0) || nextOk (l.getD (k - 1) sp0) (l.getD k sp0))
def rightSp (l : List Sp) : Bool := (List.range l.length).all (okAt l)

theorem okS_bounds {s : Sp} (h : okS s = true) : 0 ≤ s.1 ∧ 1 ≤ s.2.1 ∧ 1 ≤ s.2.2 ∧ s.2.2 < 65536 ∧ s.1 + s.2.2 ≤ 65536 ∧ s.2.1 + s.2.2 ≤ 65536 := by
  simpa [okS] using h

theorem odd_sp (s : Sp) : spans_odd s = some (!okS s) := by
  obtain ⟨x, y, z⟩ := s
  unfold spans_odd okS
  dsimp only
  by_cases q1 : x < 0
  · rw [if_neg (by simpa using q1)]
    have : ¬ (0 ≤ x ∧ 1 ≤ y ∧ 1 ≤ z ∧ z < 65536 ∧ x + z ≤ 65536 ∧ y + z ≤ 65536) := by omega
    simp [this]
  rw [if_pos (by simpa using q1)]
  by_cases q2 : y < 1
  · rw [if_neg (by simpa using q2)]
    have : ¬ (0 ≤ x ∧ 1 ≤ y ∧ 1 ≤ z ∧ z < 65536 ∧ x + z ≤ 65536 ∧ y + z ≤ 65536) := by omega
    simp [this]
  rw [if_pos (by simpa using q2)]
  by_cases q3 : z < 1
  · rw [if_neg (by simpa using q3)]
    have : ¬ (0 ≤ x ∧ 1 ≤ y ∧ 1 ≤ z ∧ z < 65536 ∧ x + z ≤ 65536 ∧ y + z ≤ 65536) := by omega
    simp [this]
  rw [if_pos (by simpa using q3)]
  by_cases q4 : z ≥ 65536
  · rw [if_neg (by simpa using q4)]
    have : ¬ (0 ≤ x ∧ 1 ≤ y ∧ 1 ≤ z ∧ z < 65536 ∧ x + z ≤ 65536 ∧ y + z ≤ 65536) := by omega
    simp [this]
  rw [if_pos (by simpa using q4), wrap64 (n := 65536 - z) (by omega) (by omega)]
  by_cases q5 : x > 65536 - z
  · rw [if_neg (by simpa using q5)]
    have : ¬ (0 ≤ x ∧ 1 ≤ y ∧ 1 ≤ z ∧ z < 65536 ∧ x + z ≤ 65536 ∧ y + z ≤ 65536) := by omega
    simp [this]
  rw [if_pos (by simpa using q5)]
  congr 1
  rw [Bool.eq_iff_iff]
  simp only [decide_eq_true_eq, Bool.not_eq_true', decide_eq_false_iff_not]
  omega

theorem joins_sp (a b : Sp) (ha : okS a = true) : spans_joins (a, b) = some (decide (a.1 + a.2.2 = b.1 ∧ a.2.1 + a.2.2 = b.2.1)) := by
  have := okS_bounds ha
  obtain ⟨x, y, z⟩ := a
  obtain ⟨u, v, w⟩ := b
  simp only at this
  unfold spans_joins
  dsimp only
  rw [wrap64 (n := x + z) (by omega) (by omega), wrap64 (n := y + z) (by omega) (by omega)]
  by_cases q : x + z = u
  · rw [if_pos (by simpa using q)]
    congr 1
    rw [Bool.eq_iff_iff]
    simp [q]
  · rw [if_neg (by simpa using q)]
    simp [q]

theorem rightSp_is (l : List Sp) (hl : l.length < 1099511627776) : spans_Right l = some (rightSp l) := by
  obtain ⟨j, _, hj, hb, hs, hrun⟩ := loop_first' (f := spans_Right.l1) (fun k => (l, l, (l.length : Int), (k : Int))) (fun k => !okAt l k) (n := l.length)
    (r := fun k => if k < l.length then .inr false else .inl ()) l.length 0 (by omega) (fun k _ hk hpre => by
      unfold spans_Right.l1
      dsimp only
      rw [if_pos (by simp; omega), if_pos (by omega), Int.toNat_natCast]
      rw [show ((0, 0, 0) : Sp) = sp0 from rfl, odd_sp]
      simp only [Option.bind_some, hk, if_true]
      cases q1 : okS (l.getD k sp0) with
      | false =>
        rw [if_neg (by simp), if_pos (by simp [okAt, q1])]
      | true =>
        rw [if_pos (by simp)]
        by_cases q2 : k = 0
        · subst q2
          rw [if_neg (by simp), if_neg (by simp only [okAt, q1]; simp)]
          rfl
        · have hpk : okS (l.getD (k - 1) sp0) = true := by
            have := hpre (k - 1) (by omega) (by omega)
            simp only [okAt, Bool.not_eq_false', Bool.and_eq_true] at this
            exact this.1
          have e1 : IntKind.i64.wrap ((k : Int) - 1) = ((k - 1 : Nat) : Int) := by rw [wrap64 (by omega) (by omega)]; omega
          rw [if_pos (by simp; omega), e1, if_pos (by omega), if_pos (by omega), Int.toNat_natCast]
          rw [joins_sp _ _ hpk]
          have hb0 := okS_bounds hpk
          have hst : okAt l k = nextOk (l.getD (k - 1) sp0) (l.getD k sp0) := by simp [okAt, q1, q2]
          rw [hst]
          rw [Option.bind_some]
          generalize l.getD (k - 1) sp0 = a at *
          generalize l.getD k sp0 = b at *
          rw [wrap64 (n := a.1 + a.2.2) (by omega) (by omega)]
          by_cases q3 : b.1 < a.1 + a.2.2
          · rw [if_neg (by simpa using q3), if_pos]
            simp only [nextOk, Bool.not_eq_true', decide_eq_false_iff_not]
            omega
          · rw [if_pos (by simpa using q3), if_pos (by omega)]
            by_cases q4 : a.1 + a.2.2 = b.1 ∧ a.2.1 + a.2.2 = b.2.1
            · rw [if_pos (by simpa using q4), if_pos]
              simp only [nextOk, Bool.not_eq_true', decide_eq_false_iff_not]
              exact fun h => h.2 q4
            · rw [if_neg (by simpa using q4), if_neg, wrap_succ (by omega)]
              simp only [nextOk, Bool.not_eq_true', decide_eq_false_iff_not, Classical.not_not]
              exact ⟨by omega, q4⟩) (by
      unfold spans_Right.l1
      dsimp only
      rw [if_neg (by simp)]
      simp)
  unfold spans_Right
  rw [show (0 : Int) = ((0 : Nat) : Int) from rfl, hrun]
  rw [rightSp, all_of hj (fun i hi => by simpa using hb i (Nat.zero_le _) hi) (fun h => by simpa using hs h)]
  by_cases hjl : j < l.length
  · simp [hjl, show j ≠ l.length by omega]
  · simp [hjl, show j = l.length by omega]

theorem refRightSp_is (l : List Sp) (hl : l.length < 1099511627776) : rf04_Right l = some (rightSp l) := by
  obtain ⟨j, _, hj, hb, hs, hrun⟩ := loop_first' (f := rf04_Right.l1) (fun k => (l, (k : Int))) (fun k => !okAt l k) (n := l.length)
    (r := fun k => if k < l.length then .inr false else .inl ()) l.length 0 (by omega) (fun k _ hk hpre => by
      unfold rf04_Right.l1
      dsimp only
      rw [if_pos (by simp; omega), if_pos (by omega), Int.toNat_natCast]
      simp only [hk, if_true]
      rw [show ((0, 0, 0) : Sp) = sp0 from rfl]
      by_cases q1 : okS (l.getD k sp0) = true
      · have hs := okS_bounds q1
        rw [if_pos (by simp; omega), if_pos (by simp; omega), if_pos (by simp; omega), if_pos (by simp; omega), if_pos (by simp; omega), if_pos (by simp; omega), wrap64 (by omega) (by omega), if_pos (by simp; omega), wrap64 (by omega) (by omega), if_neg (by simp; omega)]
        by_cases q2 : k = 0
        · subst q2
          rw [if_pos (by simp), if_neg (by simp only [okAt, q1]; simp)]
          rfl
        · have hpk : okS (l.getD (k - 1) sp0) = true := by
            have := hpre (k - 1) (by omega) (by omega)
            simp only [okAt, Bool.not_eq_false', Bool.and_eq_true] at this
            exact this.1
          have hb0 := okS_bounds hpk
          have e1 : IntKind.i64.wrap ((k : Int) - 1) = ((k - 1 : Nat) : Int) := by rw [wrap64 (by omega) (by omega)]; omega
          rw [if_neg (by simp; omega), e1, if_pos (by omega), Int.toNat_natCast]
          have hst : okAt l k = nextOk (l.getD (k - 1) sp0) (l.getD k sp0) := by simp [okAt, q1, q2]
          rw [hst]
          generalize l.getD (k - 1) sp0 = a at *
          generalize l.getD k sp0 = b at *
          rw [wrap64 (n := a.1 + a.2.2) (by omega) (by omega), wrap64 (n := a.2.1 + a.2.2) (by omega) (by omega)]
          by_cases q3 : b.1 < a.1 + a.2.2
          · rw [if_neg (by simpa using q3), if_pos]
            simp only [nextOk, Bool.not_eq_true', decide_eq_false_iff_not]
            omega
          · rw [if_pos (by simpa using q3), wrap_succ (by omega)]
            by_cases q4 : b.1 = a.1 + a.2.2
            · rw [if_pos (by simpa using q4)]
              by_cases q5 : b.2.1 = a.2.1 + a.2.2
              · rw [if_pos (by simpa using q5), if_pos]
                simp only [nextOk, Bool.not_eq_true', decide_eq_false_iff_not]
                omega
              · rw [if_neg (by simpa using q5), if_neg]
                simp only [nextOk, Bool.not_eq_true', decide_eq_false_iff_not, Classical.not_not]
                omega
            · rw [if_neg (by simpa using q4), if_neg]
              simp only [nextOk, Bool.not_eq_true', decide_eq_false_iff_not, Classical.not_not]
              omega
      · have hst : (!okAt l k) = true := by simp [okAt, q1]
        rw [if_pos hst]
        generalize l.getD k sp0 = b at *
        have hn : ¬ (0 ≤ b.1 ∧ 1 ≤ b.2.1 ∧ 1 ≤ b.2.2 ∧ b.2.2 < 65536 ∧ b.1 + b.2.2 ≤ 65536 ∧ b.2.1 + b.2.2 ≤ 65536) := by simpa [okS] using q1
        by_cases p1 : b.1 < 0
        · rw [if_neg (by simpa using p1)]
        rw [if_pos (by simpa using p1)]
        by_cases p2 : b.1 ≥ 65536
        · rw [if_neg (by simpa using p2)]
        rw [if_pos (by simpa using p2)]
        by_cases p3 : b.2.1 < 1
        · rw [if_neg (by simpa using p3)]
        rw [if_pos (by simpa using p3)]
        by_cases p4 : b.2.1 ≥ 65536
        · rw [if_neg (by simpa using p4)]
        rw [if_pos (by simpa using p4)]
        by_cases p5 : b.2.2 < 1
        · rw [if_neg (by simpa using p5)]
        rw [if_pos (by simpa using p5)]
        by_cases p6 : b.2.2 ≥ 65536
        · rw [if_neg (by simpa using p6)]
        rw [if_pos (by simpa using p6), wrap64 (by omega) (by omega)]
        by_cases p7 : b.1 + b.2.2 > 65536
        · rw [if_neg (by simpa using p7)]
        rw [if_pos (by simpa using p7), wrap64 (by omega) (by omega), if_pos (by simp; omega)]) (by
      unfold rf04_Right.l1
      dsimp only
      rw [if_neg (by simp)]
      simp)
  unfold rf04_Right
  rw [show (0 : Int) = ((0 : Nat) : Int) from rfl, hrun]
  rw [rightSp, all_of hj (fun i hi => by simpa using hb i (Nat.zero_le _) hi) (fun h => by simpa using hs h)]
  by_cases hjl : j < l.length
  · simp [hjl, show j ≠ l.length by omega]
  · simp [hjl, show j = l.length by omega]

def smallI (n : Int) : Bool := decide (0 ≤ n ∧ n ≤ 65535)
def zeroC : Card := (0, 0, 0, 0, [], 0, 0, [], 0)

theorem cards_odd_is (n : Int) : cards_odd n = some (!smallI n) := by
  unfold cards_odd smallI
  by_cases h : n < 0
  · rw [if_neg (by simpa using h)]
    simp [show ¬ 0 ≤ n by omega]
  · rw [if_pos (by simpa using h)]
    congr 1
    rw [Bool.eq_iff_iff]
    simp; omega

theorem refSmall_is (n : Int) : rf09_small n = some (smallI n) := by
  unfold rf09_small smallI
  by_cases h : n ≥ 0
  · rw [if_pos (by simpa using h)]
    simp [show 0 ≤ n from h]
  · rw [if_neg (by simpa using h)]
    simp [show ¬ 0 ≤ n from h]

theorem contains_is (l : List Int) (hl : l.length < 1099511627776) : slices_ContainsFunc_int_int l = some (!l.all smallI) := by
  obtain ⟨j, _, hj, hb, hs, hrun⟩ := loop_first (f := slices_IndexFunc_int_int.l1) (fun k => (l, (l.length : Int), (k : Int))) (fun k => !smallI (l.getD k 0)) (n := l.length)
    (r := fun k => if k < l.length then .inr (k : Int) else .inl ()) l.length 0 (by omega) (fun k _ hk => by
      unfold slices_IndexFunc_int_int.l1
      dsimp only
      rw [if_pos (by simp; omega), if_pos (by omega), Int.toNat_natCast, cards_odd_is, Option.bind_some, if_pos hk, wrap_succ (by omega)]) (by
      unfold slices_IndexFunc_int_int.l1
      dsimp only
      rw [if_neg (by simp), if_neg (by omega)])
  have hrun : loopO slices_IndexFunc_int_int.l1 (l, (l.length : Int), 0) = _ := hrun
  unfold slices_ContainsFunc_int_int slices_IndexFunc_int_int
  rw [hrun]
  by_cases hjl : j < l.length
  · rw [if_pos hjl]
    have h1 := hs hjl
    have : l.all smallI = false := by
      rw [List.all_eq_false]
      refine ⟨l[j], List.getElem_mem hjl, ?_⟩
      rw [getD_get hjl] at h1
      simpa using h1
    rw [this]
    simp only [Option.bind_some]
    simp
  · rw [if_neg hjl]
    have : l.all smallI = true := by
      rw [List.all_eq_true]
      intro x hx
      obtain ⟨i, hi, rfl⟩ := List.getElem_of_mem hx
      have := hb i (Nat.zero_le _) (by omega)
      rw [getD_get hi] at this
      simpa using this
    rw [this]
    rfl

theorem grow_is (n : Nat) (h : n < 1099511627776) : slices_Grow_int_int_1 (n : Int) = some [] := by
  have e0 : IntKind.i64.wrap (0 - 0) = 0 := by decide
  unfold slices_Grow_int_int_1
  rw [e0, Int.sub_zero, wrap_nat (by omega), if_neg (by simp)]
  by_cases hn : (n : Int) > 0
  · rw [if_pos (by simpa using hn), if_pos (by omega), if_pos ⟨by omega, by omega, by decide, by simp; omega⟩, if_pos (by omega)]
    simp
  · rw [if_neg (by simpa using hn)]

theorem concat_is (a b : List Int) (ha : a.length < 1099511627) (hb : b.length < 1099511627) : slices_Concat_int_int [a, b] = some (a ++ b) := by
  have h1 := loop_run (f := slices_Concat_int_int.l1) (fun i => ([a, b], (((([a, b].take i).map List.length).sum : Nat) : Int), [a, b], (2 : Int), (i : Int))) (n := 2) (r := ([a, b], ((a.length + b.length : Nat) : Int))) (fun i hi => by
    have : i = 0 ∨ i = 1 := by omega
    rcases this with rfl | rfl
    · unfold slices_Concat_int_int.l1
      dsimp only
      rw [if_pos (by simp), if_pos (by simp), if_neg]
      · simp [List.getD]
        constructor
        · exact wrap_nat (by omega)
        · decide
      · simp [List.getD]
        rw [wrap_nat (by omega)]; omega
    · unfold slices_Concat_int_int.l1
      dsimp only
      rw [if_pos (by simp), if_pos (by simp), if_neg]
      · simp [List.getD]
        constructor
        · rw [wrap64 (by omega) (by omega)]
        · decide
      · simp [List.getD]
        rw [wrap64 (by omega) (by omega)]; omega) (by
    unfold slices_Concat_int_int.l1
    simp)
  have h2 := loop_run (f := slices_Concat_int_int.l2) (fun i => (([a, b].take i).flatten, [a, b], (2 : Int), (i : Int))) (n := 2) (r := a ++ b) (fun i hi => by
    have : i = 0 ∨ i = 1 := by omega
    rcases this with rfl | rfl
    · unfold slices_Concat_int_int.l2
      dsimp only
      rw [if_pos (by simp), if_pos (by simp), if_pos]
      · simp [List.getD]
        decide
      · exact room (by decide) (by simp [List.getD]; omega)
    · unfold slices_Concat_int_int.l2
      dsimp only
      rw [if_pos (by simp), if_pos (by simp), if_pos]
      · simp [List.getD]
        decide
      · exact room (by decide) (by simp [List.getD]; omega)) (by
    unfold slices_Concat_int_int.l2
    simp)
  have h1 : loopO slices_Concat_int_int.l1 ([a, b], 0, [a, b], 2, 0) = _ := h1
  have h2 : loopO slices_Concat_int_int.l2 ([], [a, b], 2, 0) = _ := h2
  unfold slices_Concat_int_int
  rw [show (([a, b] : List (List Int)).length : Int) = 2 from rfl, h1]
  simp only [Option.bind_some]
  rw [grow_is _ (by omega)]
  simp only [Option.bind_some]
  rw [show (([a, b] : List (List Int)).length : Int) = 2 from rfl, h2]
  rfl

def headC (c : Card) (b : Int) : Bool := decide ((c.2.1 = 1 ∨ c.2.1 = 2) ∧ 1 ≤ c.2.2.1 ∧ c.2.2.1 ≤ 200 ∧ 0 ≤ c.2.2.2.1 ∧ c.2.2.2.1 ≤ b)

theorem head_is (c : Card) (b : Int) (hb : 0 ≤ b ∧ b ≤ 1000) : cards_head (c, b) = some (headC c (128 * b)) := by
  obtain ⟨c1, c2, c3, c4, c5, c6, c7, c8, c9⟩ := c
  unfold cards_head headC
  dsimp only
  have hw := wrap64 (n := 128 * b) (by omega) (by omega)
  have key : ∀ k : Bool, (if k = true then if decide (c3 ≥ 1) = true then if decide (c3 ≤ 200) = true then if decide (c4 ≥ 0) = true then some (decide (c4 ≤ IntKind.i64.wrap (128 * b))) else some false else some false else some false else some false) =
      some (k && decide (1 ≤ c3 ∧ c3 ≤ 200 ∧ 0 ≤ c4 ∧ c4 ≤ 128 * b)) := by
    intro k
    rw [hw]
    cases k
    · simp
    · by_cases p1 : 1 ≤ c3 <;> by_cases p2 : c3 ≤ 200 <;> by_cases p3 : 0 ≤ c4 <;> simp [p1, p2, p3]
  by_cases q : c2 = 1
  · rw [if_neg (by simp [q]), Option.bind_some]
    dsimp only
    rw [key]; simp [q]
  · rw [if_pos (by simpa using q), Option.bind_some]
    dsimp only
    rw [key]
    by_cases q2 : c2 = 2 <;> simp [q, q2]

def rightC (c : Card) : Bool :=
  decide (c = zeroC) || ((c.2.2.2.2.1 ++ [c.2.2.2.2.2.1, c.2.2.2.2.2.2.1, c.2.2.2.2.2.2.2.2]).all smallI &&
    ((c.1 == 1 && (headC c 9728 && decide (c.2.2.2.2.1.length = 4 ∧ c.2.2.2.2.2.2.2.1.length = 0 ∧ c.2.2.2.2.2.2.2.2 = 0))) ||
     (c.1 == 2 && (headC c 15360 && (decide (c.2.2.2.2.2.2.2.1.length ≤ 3) && rightSp c.2.2.2.2.2.2.2.1 && (c.2.2.2.2.2.2.2.2 == 0 || decide (c.2.2.2.2.2.2.2.1.length = 3))) && decide (c.2.2.2.2.1.length = 0 ∧ c.2.2.2.2.2.1 = 0 ∧ c.2.2.2.2.2.2.1 = 0)))))

/-- Not too long for any machine, for sums too. -/
def lenD (c : Card) : Prop := c.2.2.2.2.1.length < 1099511626 ∧ c.2.2.2.2.2.2.2.1.length < 1099511626

theorem lenD.c {c : Card} (h : lenD c) : lenC c := ⟨by have := h.1; omega, by have := h.2; omega⟩

theorem right_is (c : Card) (h : lenD c) : cards_Right c = some (rightC c) := by
  have hs := same_is c zeroC h.c
  obtain ⟨c1, c2, c3, c4, c5, c6, c7, c8, c9⟩ := c
  obtain ⟨h1, h2⟩ := h
  simp only at h1 h2
  unfold cards_Right
  dsimp only
  have hn : cards_none (c1, c2, c3, c4, c5, c6, c7, c8, c9) = some (decide ((c1, c2, c3, c4, c5, c6, c7, c8, c9) = zeroC)) := by
    unfold cards_none
    rw [show ((0, 0, 0, 0, ([] : List Int), 0, 0, ([] : List (Int × Int × Int)), 0) : Card) = zeroC from rfl, hs]
    rfl
  rw [concat_is c5 [c6, c7, c9] (by omega) (by simp), Option.bind_some, hn, Option.bind_some, contains_is _ (by simp; omega), Option.bind_some]
  unfold rightC
  dsimp only
  generalize decide ((c1, c2, c3, c4, c5, c6, c7, c8, c9) = zeroC) = z
  cases z
  case true => simp
  rw [if_neg (by simp), Bool.false_or]
  generalize (c5 ++ [c6, c7, c9]).all smallI = sm
  cases sm
  case false => simp
  rw [if_neg (by simp), Bool.true_and]
  by_cases q1 : c1 = 1
  · rw [if_pos (by simpa using q1), head_is _ 76 (by omega), Option.bind_some]
    have q2 : ¬ c1 = 2 := by omega
    rw [show (128 * 76 : Int) = 9728 from rfl]
    generalize headC _ _ = hd
    subst q1
    cases hd
    · simp
    · rw [if_pos rfl]
      by_cases p1 : c5.length = 4 <;> by_cases p2 : c8.length = 0 <;> by_cases p3 : c9 = 0 <;> simp [p1, p2, p3] <;> omega
  · rw [if_neg (by simpa using q1)]
    by_cases q2 : c1 = 2
    · rw [if_pos (by simpa using q2)]
      subst q2
      have key : ∀ b : Bool, ((cards_head ((2, c2, c3, c4, c5, c6, c7, c8, c9), 120)).bind fun r70 =>
          if r70 = true then if b = true then if ((c5.length : Int) == 0) = true then if (c6 == 0) = true then some (c7 == 0) else some false else some false else some false else some false) =
          some (headC (2, c2, c3, c4, c5, c6, c7, c8, c9) 15360 && b && decide (c5.length = 0 ∧ c6 = 0 ∧ c7 = 0)) := by
        intro b
        rw [head_is _ 120 (by omega), Option.bind_some, show (128 * 120 : Int) = 15360 from rfl]
        generalize headC _ _ = hd
        cases hd
        · simp
        · cases b
          · simp
          · rw [if_pos rfl, if_pos rfl]
            by_cases p1 : c5.length = 0 <;> by_cases p2 : c6 = 0 <;> by_cases p3 : c7 = 0 <;> simp [p1, p2, p3] <;> omega
      rw [show ((2 : Int) == 1) = false from rfl, show ((2 : Int) == 2) = true from rfl, Bool.false_and, Bool.false_or, Bool.true_and]
      by_cases p1 : c8.length ≤ 3
      · rw [if_pos (by simp; omega), rightSp_is c8 (by omega), Option.bind_some]
        cases rightSp c8
        · rw [if_neg (by simp), Option.bind_some]
          dsimp only
          rw [key]; simp
        · rw [if_pos rfl]
          by_cases p2 : c9 = 0
          · rw [if_neg (by simp [p2]), Option.bind_some]
            dsimp only
            rw [key]; simp [p1, p2]
          · rw [if_pos (by simp [p2]), Option.bind_some]
            dsimp only
            rw [key]
            have e : ((c8.length : Int) == 3) = decide (c8.length = 3) := by
              rw [Bool.eq_iff_iff]; simp; omega
            have e9 : (c9 == 0) = false := by simpa using p2
            rw [e, e9]; simp [p1]
      · rw [if_neg (by simp; omega), Option.bind_some]
        dsimp only
        rw [key]; simp [p1]
    · rw [if_neg (by simpa using q2)]
      simp [q1, q2]

/-! ### Bytes of values that fit -/

def encT : List Int → List Int → List UInt8
  | w :: ws, v :: vs => u8s (le w.toNat v) ++ encT ws vs
  | _, _ => []

def fitW : List Int → List Int → Bool
  | w :: ws, v :: vs => decide (0 ≤ v ∧ v ≤ lim w) && fitW ws vs
  | [], [] => true
  | _, _ => false

theorem fitW_len : ∀ (ws vs : List Int), fitW ws vs = true → ws.length = vs.length
  | [], [], _ => rfl
  | [], _ :: _, h => by simp [fitW] at h
  | _ :: _, [], h => by simp [fitW] at h
  | w :: ws, v :: vs, h => by
    simp only [fitW, Bool.and_eq_true] at h
    simp [fitW_len ws vs h.2]

theorem enc_fit : ∀ (ws vs : List Int), fitW ws vs = true → ∃ e, enc ws vs = some e ∧ u8s e = encT ws vs
  | [], [], _ => ⟨[], rfl, rfl⟩
  | [], _ :: _, h => by simp [fitW] at h
  | _ :: _, [], h => by simp [fitW] at h
  | w :: ws, v :: vs, h => by
    simp only [fitW, Bool.and_eq_true, decide_eq_true_eq] at h
    obtain ⟨e, h1, h2⟩ := enc_fit ws vs h.2
    refine ⟨le w.toNat v ++ e, ?_, ?_⟩
    · simp only [enc]
      rw [if_neg (by omega), h1]
      rfl
    · rw [u8s_app, h2, encT]

theorem wr_fit (ws vs : List Int) (hok : ws.all okW = true) (h : fitW ws vs = true) : wr ws vs = (encT ws vs, 0) := by
  obtain ⟨e, h1, h2⟩ := enc_fit ws vs h
  unfold wr
  rw [if_pos ⟨hok, fitW_len _ _ h⟩, h1]
  simp only
  rw [h2]

theorem encT_len : ∀ (ws vs : List Int), fitW ws vs = true → (encT ws vs).length = (ws.map Int.toNat).sum
  | [], [], _ => rfl
  | [], _ :: _, h => by simp [fitW] at h
  | _ :: _, [], h => by simp [fitW] at h
  | w :: ws, v :: vs, h => by
    simp only [fitW, Bool.and_eq_true] at h
    simp [encT, u8s_len, le_len, encT_len ws vs h.2]

/-! ### A card's values -/

def ws1 : List Int := [1, 1, 2, 4, 2, 2, 2, 2, 2, 2]
def ws2 : List Int := [1, 1, 2, 4, 1, 2, 2, 2, 2, 2, 2, 2, 2, 2, 2]
def spC (c : Card) (i : Nat) : Sp := c.2.2.2.2.2.2.2.1.getD i sp0
def vs1 (c : Card) : List Int := [c.1, c.2.1, c.2.2.1, c.2.2.2.1] ++ c.2.2.2.2.1 ++ [c.2.2.2.2.2.1, c.2.2.2.2.2.2.1]
def spV (s : Sp) : List Int := [s.1, s.2.1, s.2.2]
def vs2 (c : Card) : List Int := [c.1, c.2.1, c.2.2.1, c.2.2.2.1] ++ [(c.2.2.2.2.2.2.2.1.length : Int)] ++ (List.range 3).flatMap (fun i => spV (spC c i)) ++ [c.2.2.2.2.2.2.2.2]
def bytesC (c : Card) : List UInt8 := if c = zeroC then [] else if c.1 = 1 then encT ws1 (vs1 c) else encT ws2 (vs2 c)
def padC (s : List UInt8) : List UInt8 := s ++ List.replicate (32 - s.length) 0
def wrC (c : Card) : List UInt8 × Int := if rightC c = true then (padC (bytesC c), 0) else ([], 1)

/-! ### What a right card is -/

theorem refAll_loop (c1 c2 c3 c4 : Int) (c5 : List Int) (c6 c7 : Int) (c8 : List Sp) (c9 : Int) (hl : c5.length < 1099511627776) :
    loopO rf09_Right.l1 ((c1, c2, c3, c4, c5, c6, c7, c8, c9), 0) = some (if c5.all smallI = true then .inl (c1, c2, c3, c4, c5, c6, c7, c8, c9) else .inr false) := by
  obtain ⟨j, _, hj, hb, hs, hrun⟩ := loop_first (f := rf09_Right.l1) (fun k => ((c1, c2, c3, c4, c5, c6, c7, c8, c9), (k : Int))) (fun k => !smallI (c5.getD k 0)) (n := c5.length)
    (r := fun k => if k < c5.length then .inr false else .inl (c1, c2, c3, c4, c5, c6, c7, c8, c9)) c5.length 0 (by omega) (fun k _ hk => by
      unfold rf09_Right.l1
      dsimp only
      rw [if_pos (by simp; omega), if_pos (by omega), Int.toNat_natCast, refSmall_is, Option.bind_some, if_pos hk, wrap_succ (by omega)]) (by
      unfold rf09_Right.l1
      dsimp only
      rw [if_neg (by simp), if_neg (by omega)])
  have hrun : loopO rf09_Right.l1 ((c1, c2, c3, c4, c5, c6, c7, c8, c9), 0) = _ := hrun
  rw [hrun]
  by_cases hjl : j < c5.length
  · rw [if_pos hjl]
    have h1 := hs hjl
    have : c5.all smallI = false := by
      rw [List.all_eq_false]
      refine ⟨c5[j], List.getElem_mem hjl, ?_⟩
      rw [getD_get hjl] at h1
      simpa using h1
    rw [this]
    rfl
  · rw [if_neg hjl]
    have : c5.all smallI = true := by
      rw [List.all_eq_true]
      intro x hx
      obtain ⟨i, hi, rfl⟩ := List.getElem_of_mem hx
      have := hb i (Nat.zero_le _) (by omega)
      rw [getD_get hi] at this
      simpa using this
    rw [this]
    rfl

theorem lenEq (n k : Nat) : (((n : Nat) : Int) == (k : Int)) = decide (n = k) := by
  rw [Bool.eq_iff_iff]; simp; omega

theorem refRight_c (c : Card) (h : lenC c) : rf09_Right c = some (rightC c) := by
  have hs := refCSame_is c zeroC h
  obtain ⟨c1, c2, c3, c4, c5, c6, c7, c8, c9⟩ := c
  obtain ⟨h1, h2⟩ := h
  simp only at h1 h2
  unfold rf09_Right
  dsimp only
  have hs : rf09_Same ((c1, c2, c3, c4, c5, c6, c7, c8, c9), 0, 0, 0, 0, ([] : List Int), 0, 0, ([] : List (Int × Int × Int)), 0) = some (decide ((c1, c2, c3, c4, c5, c6, c7, c8, c9) = zeroC)) := hs
  rw [hs, Option.bind_some]
  unfold rightC
  dsimp only
  generalize decide ((c1, c2, c3, c4, c5, c6, c7, c8, c9) = zeroC) = z
  cases z
  case true => simp
  rw [if_neg (by simp), Bool.false_or]
  by_cases hd : (c2 = 1 ∨ c2 = 2) ∧ 1 ≤ c3 ∧ c3 ≤ 200 ∧ 0 ≤ c4
  · obtain ⟨hk, k1, k2, k3⟩ := hd
    have hk' : headC (c1, c2, c3, c4, c5, c6, c7, c8, c9) 9728 = decide (c4 ≤ 9728) := by simp [headC, hk, k1, k2, k3]
    have hk2 : headC (c1, c2, c3, c4, c5, c6, c7, c8, c9) 15360 = decide (c4 ≤ 15360) := by simp [headC, hk, k1, k2, k3]
    have e1 : decide (c3 < 1) = false := by simp; omega
    have e2 : decide (c3 > 200) = false := by simp; omega
    have e3 : decide (c4 < 0) = false := by simp; omega
    have e5 : (c2 != 2) = false ∨ (c2 != 1) = false := by
      rcases hk with h | h <;> simp [h]
    rw [e1, e2, e3, hk', hk2]
    have tail : ∀ {α : Type} (x : Option α) (y : Option α), (if (c2 != 1) = true then if (c2 != 2) = false then x else y else x) = x := by
      intro α x y
      rcases e5 with h | h
      · rw [if_pos h]; split <;> rfl
      · rw [if_neg (by rw [h]; simp)]
    rw [if_pos rfl, if_pos rfl, if_neg (show ¬ (false = true) by decide), tail, Option.bind_some]
    dsimp only
    have l4 := lenEq c5.length 4
    have l0 := lenEq c5.length 0
    have m0 := lenEq c8.length 0
    have m3 := lenEq c8.length 3
    rw [show ((4 : Nat) : Int) = 4 from rfl] at l4
    rw [show ((0 : Nat) : Int) = 0 from rfl] at l0 m0
    rw [show ((3 : Nat) : Int) = 3 from rfl] at m3
    by_cases q1 : c1 = 1
    · subst q1
      rw [if_pos (by decide), refAll_loop _ _ _ _ _ _ _ _ _ h1, Option.bind_some]
      rw [List.all_append]
      cases c5.all smallI
      · simp
      · rw [if_pos rfl]
        dsimp only
        rw [l4, m0, refSmall_is, refSmall_is]
        simp only [List.all_cons, List.all_nil, Option.bind_some]
        by_cases p4 : c9 = 0
        · subst p4
          have : smallI 0 = true := rfl
          rw [this]
          generalize smallI c6 = u
          generalize smallI c7 = v
          by_cases p1 : c4 ≤ 9728 <;> by_cases p2 : c5.length = 4 <;> by_cases p3 : c8.length = 0 <;> cases u <;> cases v <;> simp [p1, p2, p3]
        · generalize smallI c6 = u
          generalize smallI c7 = v
          by_cases p1 : c4 ≤ 9728 <;> by_cases p2 : c5.length = 4 <;> by_cases p3 : c8.length = 0 <;> cases u <;> cases v <;> simp [p1, p2, p3, p4]
    · rw [if_neg (by simpa using q1)]
      by_cases q2 : c1 = 2
      · subst q2
        have l3 : decide ((c8.length : Int) ≤ 3) = decide (c8.length ≤ 3) := decide_eq_decide.2 (by omega)
        rw [if_pos (by decide), l0, m3, l3, refRightSp_is _ h2, refSmall_is]
        simp only [Option.bind_some]
        by_cases p2 : c5.length = 0
        · have : c5 = [] := List.eq_nil_of_length_eq_zero p2
          subst this
          by_cases p6 : c6 = 0
          · subst p6
            by_cases p7 : c7 = 0
            · subst p7
              have : smallI 0 = true := rfl
              simp only [List.nil_append, List.all_cons, List.all_nil, this]
              have e9 : (c9 == 0) = decide (c9 = 0) := by rw [Bool.eq_iff_iff]; simp
              rw [e9]
              generalize smallI c9 = u
              generalize rightSp c8 = v
              by_cases p1 : c4 ≤ 15360 <;> by_cases p3 : c8.length ≤ 3 <;> by_cases p4 : c9 = 0 <;> cases u <;> cases v <;> simp [p1, p3, p4]
            · simp [p7]
          · simp [p6]
        · simp [p2]
      · rw [if_neg (by simpa using q2)]
        simp [q1, q2]
  · have f1 : headC (c1, c2, c3, c4, c5, c6, c7, c8, c9) 9728 = false := by
      unfold headC; rw [decide_eq_false_iff_not]; dsimp only; omega
    have f2 : headC (c1, c2, c3, c4, c5, c6, c7, c8, c9) 15360 = false := by
      unfold headC; rw [decide_eq_false_iff_not]; dsimp only; omega
    rw [f1, f2]
    have hR : ((c5 ++ [c6, c7, c9]).all smallI && (c1 == 1 && (false && decide (c5.length = 4 ∧ c8.length = 0 ∧ c9 = 0)) || c1 == 2 && (false && (decide (c8.length ≤ 3) && rightSp c8 && (c9 == 0 || decide (c8.length = 3))) && decide (c5.length = 0 ∧ c6 = 0 ∧ c7 = 0)))) = false := by simp
    rw [hR]
    by_cases p1 : c2 = 1
    · rw [if_neg (by simp [p1])]
      by_cases p3 : c3 < 1
      · rw [if_neg (by simp; omega)]; rfl
      · rw [if_pos (by simp; omega)]
        by_cases p4 : c3 > 200
        · rw [if_neg (by simp; omega)]; rfl
        · rw [if_pos (by simp; omega), if_pos (by simp; omega)]; rfl
    · rw [if_pos (by simpa using p1)]
      by_cases p2 : c2 = 2
      · rw [if_pos (by simpa using p2)]
        by_cases p3 : c3 < 1
        · rw [if_neg (by simp; omega)]; rfl
        · rw [if_pos (by simp; omega)]
          by_cases p4 : c3 > 200
          · rw [if_neg (by simp; omega)]; rfl
          · rw [if_pos (by simp; omega), if_pos (by simp; omega)]; rfl
      · rw [if_neg (by simpa using p2)]; rfl

theorem rd_ok (ws : List Int) (s : List UInt8) (hok : ws.all okW = true) (h : ws.sum ≤ s.length) : rd ws s = (rdS ws s, 0) := by
  unfold rd
  rw [if_pos hok, if_neg (by omega)]

def val2 (s : List UInt8) (j w : Nat) : Int := (val ((s.drop j).take w) : Int)

/-- The numbers of a card of the second format, behind its head. -/
def numsC (s : List UInt8) : List Int := rdS [1, 2, 2, 2, 2, 2, 2, 2, 2, 2, 2] (s.drop 8)
def spR (n : List Int) (i : Nat) : Sp := (n.getD (1 + 3 * i) 0, n.getD (2 + 3 * i) 0, n.getD (3 + 3 * i) 0)
def cardOf (s : List UInt8) : Card :=
  let h := rdS [1, 1, 2, 4] s
  if h.getD 0 0 = 1 then
    let n := rdS [2, 2, 2, 2, 2, 2] (s.drop 8)
    (h.getD 0 0, h.getD 1 0, h.getD 2 0, h.getD 3 0, n.take 4, n.getD 4 0, n.getD 5 0, [], 0)
  else if h.getD 0 0 = 2 then
    let n := numsC s
    (h.getD 0 0, h.getD 1 0, h.getD 2 0, h.getD 3 0, [], 0, 0, (List.range (min 3 (n.getD 0 0).toNat)).map (spR n), n.getD 10 0)
  else zeroC
def rdC (s : List UInt8) : Card × Int := if s.length = 32 ∧ rightC (cardOf s) = true ∧ (wrC (cardOf s)).1 = s then (cardOf s, 0) else (zeroC, 15)

end Go.Proofs.YtlbammfnkphajaaGreatDoor.Abs
