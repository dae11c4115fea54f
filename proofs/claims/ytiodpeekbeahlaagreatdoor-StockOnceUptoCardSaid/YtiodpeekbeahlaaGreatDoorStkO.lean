/- On a new disk no block is taken twice till it is given back. -/
import Derived.Test.YtiodpeekbeahlaaGreatDoorStkB
namespace Go.Proofs.YtiodpeekbeahlaaGreatDoor.Abs
open Go
set_option linter.unusedVariables false
attribute [-simp] List.getD_eq_getElem?_getD

theorem tmod_nat (x : Int) (k : Nat) (h0 : 0 < k) (h1 : k ≤ 1000) : ∃ M : Nat, M < k ∧ IntKind.i64.wrap (Int.tmod (IntKind.u64.wrap x) (k : Int)) = (M : Int) := by
  have hu : 0 ≤ IntKind.u64.wrap x := by
    simp only [IntKind.wrap, IntKind.signed, IntKind.bits]
    simp
    omega
  have a := Int.tmod_nonneg (k : Int) hu
  have b := Int.tmod_lt_of_pos (IntKind.u64.wrap x) (show (0 : Int) < (k : Int) by omega)
  exact ⟨(Int.tmod (IntKind.u64.wrap x) (k : Int)).toNat, by omega, by rw [wrap64 (by omega) (by omega)]; omega⟩

theorem size_is (x : Int) : ∃ n : Nat, (64 ≤ n ∧ n ≤ 400) ∧ wainwrightlaw13_size x = some (n : Int) := by
  obtain ⟨M, h1, h2⟩ := tmod_nat x 337 (by decide) (by decide)
  refine ⟨64 + M, by omega, ?_⟩
  unfold wainwrightlaw13_size
  change IntKind.i64.wrap (Int.tmod (IntKind.u64.wrap x) 337) = (M : Int) at h2
  rw [h2, wrap64 (by omega) (by omega)]
  simp

theorem early_is (l : List (Int × Int)) : wainwrightlaw13_early l = some (l.take 60) := by
  have hmin : (if 60 < (l.length : Int) then 60 else (l.length : Int)) = ((min 60 l.length : Nat) : Int) := by
    by_cases h : 60 < (l.length : Int)
    · rw [if_pos h]; omega
    · rw [if_neg h]; omega
  unfold wainwrightlaw13_early
  rw [hmin, if_pos (by omega), Int.toNat_natCast]
  congr 1
  rw [← List.take_take, List.take_length]

theorem loop_inv {σ τ : Type} {f : σ → Option (σ ⊕ τ)} (P : Nat → σ → Prop) {n : Nat} (hs : ∀ i s, i < n → P i s → ∃ s', f s = some (.inl s') ∧ P (i + 1) s') (s0 : σ) (h0 : P 0 s0) : ∃ s, P n s ∧ loopO f s0 = loopO f s := by
  have : ∀ k, k ≤ n → ∃ s, P k s ∧ loopO f s0 = loopO f s := by
    intro k
    induction k with
    | zero => intro _; exact ⟨s0, h0, rfl⟩
    | succ k ih =>
      intro hk
      obtain ⟨s, p, e⟩ := ih (by omega)
      obtain ⟨s', e', p'⟩ := hs k s (by omega) p
      exact ⟨s', p', by rw [e, loopO_inl e']⟩
  exact this n (Nat.le_refl _)

/-! ### How many are used -/

def cntF (f : Nat → Bool) : Nat → Nat
  | 0 => 0
  | n + 1 => cntF f n + (f n).toNat
theorem cnt_F (m : Blk) : ∀ L, cnt m L = cntF (fun q => isM m (q : Int)) L
  | 0 => rfl
  | L + 1 => by rw [cnt, cntF, cnt_F m L]
theorem cntF_congr {f g : Nat → Bool} : ∀ L, (∀ q, q < L → f q = g q) → cntF f L = cntF g L
  | 0, _ => rfl
  | L + 1, h => by rw [cntF, cntF, cntF_congr L (fun q hq => h q (by omega)), h L (by omega)]
theorem cntF_set {f g : Nat → Bool} {a k : Nat} (hg : ∀ q, g q = if a ≤ q ∧ q < a + k then true else f q) (hf : ∀ q, a ≤ q → q < a + k → f q = false) : ∀ L, cntF g L = cntF f L + (if L ≤ a then 0 else if L ≤ a + k then L - a else k)
  | 0 => by simp [cntF]
  | L + 1 => by
    rw [cntF, cntF, cntF_set hg hf L, hg]
    by_cases h : a ≤ L ∧ L < a + k
    · rw [if_pos h, hf L h.1 h.2]
      have e1 : true.toNat = 1 := rfl
      have e2 : false.toNat = 0 := rfl
      rw [e1, e2]
      split <;> split <;> (try split) <;> (try split) <;> omega
    · rw [if_neg h]
      split <;> split <;> (try split) <;> (try split) <;> omega
theorem cntF_clear {f g : Nat → Bool} {a : Nat} (hg : ∀ q, g q = if q = a then false else f q) (hf : f a = true) : ∀ L, cntF g L + (if L ≤ a then 0 else 1) = cntF f L
  | 0 => by simp [cntF]
  | L + 1 => by
    have ih := cntF_clear hg hf L
    rw [cntF, cntF, hg]
    by_cases h : L = a
    · rw [if_pos h, h, hf]
      rw [h] at ih
      have e1 : true.toNat = 1 := rfl
      have e2 : false.toNat = 0 := rfl
      rw [if_neg (by omega), e1, e2]
      rw [if_pos (by omega)] at ih
      omega
    · rw [if_neg h]
      split at ih <;> split <;> omega
theorem cntF_all {f : Nat → Bool} : ∀ L, (∀ q, q < L → f q = true) → cntF f L = L
  | 0, _ => rfl
  | L + 1, h => by rw [cntF, cntF_all L (fun q hq => h q (by omega)), h L (by omega)]; rfl

def usedF (m : Blk) (q : Nat) : Bool := decide (q < 51) || isM m (q : Int)
theorem cnt_low (m : Blk) (hl : m.length = 128) (n : Nat) : cnt (lowM m) n = cntF (usedF m) n := by
  rw [cnt_F]
  refine cntF_congr n fun q _ => ?_
  unfold usedF
  rw [low_is m hl]
  by_cases h : q < 51
  · rw [if_pos (by omega), decide_eq_true h]; rfl
  · rw [if_neg (by omega), decide_eq_false h]; rfl

/-! ### What holds between two steps -/

structure Once (n : Nat) (es : Loo) (tk : List Bool) (count : Nat) : Prop where
  crown : getS es 0 = crownB n
  len : (getS es 42).length = 128
  tkLen : tk.length = n
  tkIs : ∀ q, 51 ≤ q → q < n → tk.getD q false = isM (getS es 42) (q : Int)
  cnt : cntF (usedF (getS es 42)) n = 51 + count

def tkU (tk : List Bool) (a : Nat) : Nat → List Bool
  | 0 => tk
  | k + 1 => (tkU tk a k).set (a + k) true
theorem tkU_len (tk : List Bool) (a : Nat) : ∀ k, (tkU tk a k).length = tk.length
  | 0 => rfl
  | k + 1 => by rw [tkU, List.length_set, tkU_len tk a k]
theorem setBool (l : List Bool) (i j : Nat) (b : Bool) : (l.set i b).getD j false = if i = j ∧ j < l.length then b else l.getD j false := by
  simp only [List.getD, List.getElem?_set]
  by_cases h : i = j
  · subst h
    by_cases h2 : i < l.length
    · simp [h2]
    · simp [h2]
  · simp [h]
theorem tkU_get (tk : List Bool) (a : Nat) : ∀ k, a + k ≤ tk.length → ∀ q, (tkU tk a k).getD q false = if a ≤ q ∧ q < a + k then true else tk.getD q false
  | 0, _, q => by rw [if_neg (by omega)]; rfl
  | k + 1, h, q => by
    rw [tkU, setBool, tkU_len, tkU_get tk a k (by omega) q]
    by_cases e : a + k = q
    · rw [if_pos ⟨e, by omega⟩, if_pos (by omega)]
    · rw [if_neg (fun x => e x.1)]
      by_cases h2 : a ≤ q ∧ q < a + k
      · rw [if_pos h2, if_pos (by omega)]
      · rw [if_neg h2, if_neg (by omega)]

theorem Once.take {n : Nat} {es : Loo} {tk : List Bool} {count : Nat} (h : Once n es tk count) (hr : 64 ≤ n ∧ n ≤ 400) {a k : Nat} (h1 : 51 ≤ a) (h2 : a + k ≤ n) (hf : ∀ q : Nat, a ≤ q → q < a + k → isM (getS es 42) (q : Int) = false) :
    Once n (mp (esU es a k) 42 (taken (getS es 42) a k)) (tkU tk a k) (count + k) := by
  have hm := h.len
  have h42 : getS (mp (esU es a k) 42 (taken (getS es 42) a k)) 42 = taken (getS es 42) a k := by rw [get_mp, if_pos rfl]
  have his := taken_is (getS es 42) a k (by omega)
  refine ⟨?_, by rw [h42, taken_len]; exact hm, by rw [tkU_len]; exact h.tkLen, fun q q1 q2 => ?_, ?_⟩
  · rw [get_mp, if_neg (by decide), esU_get, if_neg (by omega)]
    exact h.crown
  · rw [h42, tkU_get _ _ _ (by rw [h.tkLen]; exact h2), his]
    by_cases e : a ≤ q ∧ q < a + k
    · rw [if_pos e, if_pos (by omega)]
    · rw [if_neg e, if_neg (by omega)]
      exact h.tkIs q q1 q2
  · rw [h42]
    have := cntF_set (f := usedF (getS es 42)) (g := usedF (taken (getS es 42) a k)) (a := a) (k := k) (fun q => ?_) (fun q q1 q2 => ?_) n
    · rw [this, h.cnt]
      split
      · omega
      · split <;> omega
    · unfold usedF
      rw [his]
      by_cases e : a ≤ q ∧ q < a + k
      · rw [if_pos e, if_pos (by omega), Bool.or_true]
      · rw [if_neg e, if_neg (by omega)]
    · unfold usedF
      rw [hf q q1 q2, decide_eq_false (by omega)]
      rfl

theorem Once.drop {n : Nat} {es : Loo} {tk : List Bool} {count : Nat} (h : Once n es tk count) (hr : 64 ≤ n ∧ n ≤ 400) {a : Nat} (h1 : 51 ≤ a) (h2 : a < n) (hf : isM (getS es 42) (a : Int) = true) :
    1 ≤ count ∧ Once n (mp es 42 (setM (getS es 42) (a : Int) false)) (tk.set a false) (count - 1) := by
  have hm := h.len
  have h42 : getS (mp es 42 (setM (getS es 42) (a : Int) false)) 42 = setM (getS es 42) (a : Int) false := by rw [get_mp, if_pos rfl]
  have his := fun q => isM_set (getS es 42) (a : Int) q false (by rw [hm]; omega)
  have hcnt := cntF_clear (f := usedF (getS es 42)) (g := usedF (setM (getS es 42) (a : Int) false)) (a := a) (fun q => by
    unfold usedF
    rw [his]
    by_cases e : q = a
    · rw [if_pos e, if_pos (by omega), decide_eq_false (by omega)]; rfl
    · rw [if_neg e, if_neg (by omega)]) (by unfold usedF; rw [hf, Bool.or_true]) n
  rw [if_neg (by omega), h.cnt] at hcnt
  have hlow : 51 ≤ cntF (usedF (setM (getS es 42) (a : Int) false)) n := by
    have : ∀ L, min L 51 ≤ cntF (usedF (setM (getS es 42) (a : Int) false)) L := by
      intro L
      induction L with
      | zero => omega
      | succ L ih =>
        rw [cntF]
        by_cases e : L < 51
        · have : usedF (setM (getS es 42) (a : Int) false) L = true := by unfold usedF; rw [decide_eq_true e]; rfl
          rw [this, show true.toNat = 1 from rfl]
          omega
        · omega
    have := this n
    omega
  refine ⟨by omega, ⟨?_, by rw [h42, setM_len]; exact hm, by rw [List.length_set]; exact h.tkLen, fun q q1 q2 => ?_, ?_⟩⟩
  · rw [get_mp, if_neg (by decide)]
    exact h.crown
  · rw [h42, setBool, his, h.tkLen]
    by_cases e : a = q
    · rw [if_pos ⟨e, q2⟩, if_pos (by omega)]
    · rw [if_neg (fun x => e x.1), if_neg (by omega)]
      exact h.tkIs q q1 q2
  · rw [h42]; omega

theorem Once.full {n : Nat} {es : Loo} {tk : List Bool} {count : Nat} (h : Once n es tk count) (hr : 64 ≤ n ∧ n ≤ 400) (hb : IsBest (getS es 42) n 0) : n = 51 + count := by
  rw [← h.cnt]
  refine (cntF_all n fun q hq => ?_).symm
  unfold usedF
  by_cases e : q < 51
  · rw [decide_eq_true e]; rfl
  · rw [decide_eq_false e]
    have h1 := hb.none 1 (by omega)
    rcases runS_spec (getS es 42) 51 n 1 with ⟨i, k1, _⟩ | ⟨k1, k2⟩
    · rw [k1] at h1; cases h1
    · have := k2 q hq
      cases hm : isM (getS es 42) (q : Int) with
      | true => rfl
      | false =>
        rw [(isRun_iff ..).2 ⟨by omega, by omega, fun p p1 p2 => by
          have : p = q := by omega
          rw [this]; exact hm⟩] at this
        cases this

/-! ### One step -/

section
variable {n : Nat} {xs : List Blk} (hB : Base n xs) (r0 r1 : List Blk) (S : List (Int × Int)) (hS : S.length ≤ 60)
include hB hS

omit hS in
theorem set_loop {es : Loo} {tk : List Bool} (count i a k : Nat) (htl : tk.length = n) (h1 : 51 ≤ a) (h2 : a + k ≤ n) (hc : count ≤ 400) (hf : ∀ q : Nat, a ≤ q → q < a + k → tk.getD q false = false) :
    loopO wainwrightlaw13_StockOnce.l2 ((tk, (false, 0), es, r0, r1, (0, -1), xs, []), (n : Int), S, (count : Int), (i : Int), (a : Int), (k : Int), (a : Int)) =
      some (.inl ((tkU tk a k, (false, 0), es, r0, r1, (0, -1), xs, []), (n : Int), S, ((count + k : Nat) : Int), (i : Int))) := by
  have hr := hB.room
  have := loop_run (f := wainwrightlaw13_StockOnce.l2) (fun j => ((tkU tk a j, (false, 0), es, r0, r1, (0, -1), xs, []), (n : Int), S, ((count + j : Nat) : Int), (i : Int), (a : Int), (k : Int), ((a + j : Nat) : Int))) (n := k) (r := .inl ((tkU tk a k, (false, 0), es, r0, r1, (0, -1), xs, []), (n : Int), S, ((count + k : Nat) : Int), (i : Int))) (fun j hj => by
    have hl := tkU_len tk a j
    have hg := tkU_get tk a j (by omega) (a + j)
    rw [if_neg (by omega), hf (a + j) (by omega) (by omega)] at hg
    unfold wainwrightlaw13_StockOnce.l2
    simp only
    rw [if_pos (by rw [wrap64 (by omega) (by omega), decide_eq_true_eq]; omega), if_pos (decide_eq_false (by omega)), if_pos (decide_eq_false (by omega)), if_pos (by omega), Int.toNat_natCast, hg, if_neg (by simp), if_pos (by omega), wrap_succ (by omega), wrap_succ (by omega)]
    rfl) (by
    unfold wainwrightlaw13_StockOnce.l2
    simp only
    rw [if_neg (by rw [wrap64 (by omega) (by omega), decide_eq_true_eq]; omega)])
  rw [← this]
  rfl

theorem once_step {es : Loo} {tk : List Bool} {count : Nat} (h : Once n es tk count) (i : Nat) (hi : i < S.length) (hw : (S.getD i (0, 0)).2 < 9223372036854775808) :
    ∃ es' tk' count', wainwrightlaw13_StockOnce.l1 ((tk, (false, 0), es, r0, r1, (0, -1), xs, []), (n : Int), S, (count : Int), (i : Int)) =
        some (.inl ((tk', (false, 0), es', r0, r1, (0, -1), xs, []), (n : Int), S, ((count' : Nat) : Int), ((i + 1 : Nat) : Int))) ∧ Once n es' tk' count' := by
  have hr := hB.room
  obtain ⟨K, hK, hk⟩ := tmod_nat (S.getD i (0, 0)).1 4 (by decide) (by decide)
  change IntKind.i64.wrap (Int.tmod (IntKind.u64.wrap (S.getD i (0, 0)).1) 4) = (K : Int) at hk
  have hkind : wainwrightlaw13_Op_kind ((S.getD i (0, 0)).1, (S.getD i (0, 0)).2) = some (K : Int) := by
    unfold wainwrightlaw13_Op_kind
    rw [hk]
  have hcn : count ≤ 400 := by
    have h1 := h.cnt
    have h2 := cnt_le (lowM (getS es 42)) n
    rw [cnt_low _ h.len] at h2
    omega
  obtain ⟨b, hb, _⟩ := best_of (getS es 42) n h.len hr.2
  -- what a row that is taken leaves
  have hrow : ∀ c : Int, 1 ≤ c → (rowS (getS es 42) n b c).2 ≠ 0 →
      ∃ tk' count', loopO wainwrightlaw13_StockOnce.l2 ((tk, (false, 0), mp (esU es (rowS (getS es 42) n b c).1 (rowS (getS es 42) n b c).2) 42 (taken (getS es 42) (rowS (getS es 42) n b c).1 (rowS (getS es 42) n b c).2), r0, r1, (0, -1), xs, []), (n : Int), S, (count : Int), (i : Int), ((rowS (getS es 42) n b c).1 : Int), ((rowS (getS es 42) n b c).2 : Int), ((rowS (getS es 42) n b c).1 : Int)) =
          some (.inl ((tk', (false, 0), mp (esU es (rowS (getS es 42) n b c).1 (rowS (getS es 42) n b c).2) 42 (taken (getS es 42) (rowS (getS es 42) n b c).1 (rowS (getS es 42) n b c).2), r0, r1, (0, -1), xs, []), (n : Int), S, ((count' : Nat) : Int), (i : Int))) ∧
        Once n (mp (esU es (rowS (getS es 42) n b c).1 (rowS (getS es 42) n b c).2) 42 (taken (getS es 42) (rowS (getS es 42) n b c).1 (rowS (getS es 42) n b c).2)) tk' count' := by
    intro c hc hne
    obtain ⟨_, hs⟩ := rowS_spec hb (c := c) hc
    obtain ⟨s1, s2, s3⟩ := hs (by omega)
    generalize rowS (getS es 42) n b c = q at hne s1 s2 s3
    obtain ⟨a, k⟩ := q
    simp only at hne s1 s2 s3 ⊢
    exact ⟨_, _, set_loop hB r0 r1 S count i a k h.tkLen s1 s2 hcn (fun q q1 q2 => by rw [h.tkIs q (by omega) (by omega)]; exact s3 q q1 q2), h.take hr s1 s2 s3⟩
  have hzero : ∀ c : Int, 1 ≤ c → (rowS (getS es 42) n b c).2 = 0 → n = 51 + count := by
    intro c hc h0
    unfold rowS at h0
    rcases runS_spec (getS es 42) 51 n c.toNat with ⟨j, k1, _⟩ | ⟨k1, _⟩
    · rw [k1] at h0
      simp only at h0
      omega
    · rw [k1] at h0
      simp only at h0
      rw [h0] at hb
      exact h.full hr hb
  have hn51 : IntKind.i64.wrap ((n : Int) - 51) = (n : Int) - 51 := wrap64 (by omega) (by omega)
  unfold wainwrightlaw13_StockOnce.l1
  simp only
  rw [if_pos (by simpa using hi), if_pos (by omega), getD_nat, hkind, Option.bind_some]
  by_cases k0 : K = 0
  · -- one block is taken
    rw [if_pos (by rw [k0]; rfl)]
    unfold stock_Take_1
    simp only
    rw [run_d hB h.crown h.len hb 1 (by omega), if_neg (by omega)]
    by_cases hz : (rowS (getS es 42) n b 1).2 = 0
    · have := hzero 1 (by omega) hz
      rw [if_pos hz, Option.bind_some]
      simp only
      rw [Option.bind_some]
      simp only
      rw [Option.bind_some]
      simp only
      rw [if_pos (by decide), hn51, if_neg (by rw [decide_eq_true_eq]; omega), wrap_succ (by omega)]
      exact ⟨_, _, _, rfl, h⟩
    · obtain ⟨tk', count', e1, e2⟩ := hrow 1 (by omega) hz
      have hk1 : (rowS (getS es 42) n b 1).2 = 1 := by
        have hle : (rowS (getS es 42) n b 1).2 = 1 ∨ runS (getS es 42) 51 n 1 = none := by
          unfold rowS
          rcases runS_spec (getS es 42) 51 n (1 : Int).toNat with ⟨j, k1, _⟩ | ⟨k1, _⟩
          · rw [k1]; exact .inl rfl
          · exact .inr k1
        rcases hle with q | q
        · exact q
        · exfalso
          have h2 := (rowS_spec hb (c := 1) (by omega)).1
          exact run_down (c := b) (by omega) (by omega) (hb.some (by omega)) q
      rw [if_neg hz, Option.bind_some]
      simp only
      rw [Option.bind_some]
      simp only
      rw [Option.bind_some]
      simp only
      rw [if_neg (by decide)]
      rw [hk1] at e1 e2
      rw [hk1]
      have e1' := e1
      change loopO wainwrightlaw13_StockOnce.l2 (_, _, _, _, _, _, (1 : Int), _) = _ at e1'
      rw [e1', Option.bind_some]
      simp only
      rw [wrap_succ (by omega)]
      exact ⟨_, _, _, rfl, e2⟩
  · rw [if_neg (by simp only [beq_iff_eq]; omega)]
    by_cases k1 : K = 1
    · -- a row is taken
      rw [if_pos (by rw [k1]; rfl), run_d hB h.crown h.len hb _ hw]
      by_cases hc : (S.getD i (0, 0)).2 < 1
      · rw [if_pos hc, Option.bind_some]
        simp only
        rw [Option.bind_some]
        simp only
        rw [if_pos (by decide), hn51, wrap_succ (by omega)]
        by_cases hlt : (count : Int) < (n : Int) - 51
        · rw [if_pos (by simpa using hlt)]
          unfold wainwrightlaw13_Op_kind
          simp only
          rw [hk, Option.bind_some, if_pos (by rw [k1]; rfl), if_neg (by rw [decide_eq_true_eq]; omega)]
          exact ⟨_, _, _, rfl, h⟩
        · rw [if_neg (by simpa using hlt)]
          exact ⟨_, _, _, rfl, h⟩
      · rw [if_neg hc]
        by_cases hz : (rowS (getS es 42) n b (S.getD i (0, 0)).2).2 = 0
        · have := hzero _ (by omega) hz
          rw [if_pos hz, Option.bind_some]
          simp only
          rw [Option.bind_some]
          simp only
          rw [if_pos (by decide), hn51, if_neg (by rw [decide_eq_true_eq]; omega), wrap_succ (by omega)]
          exact ⟨_, _, _, rfl, h⟩
        · obtain ⟨tk', count', e1, e2⟩ := hrow _ (by omega) hz
          rw [if_neg hz, Option.bind_some]
          simp only
          rw [Option.bind_some]
          simp only
          rw [if_neg (by decide), e1, Option.bind_some]
          simp only
          rw [wrap_succ (by omega)]
          exact ⟨_, _, _, rfl, e2⟩
    · rw [if_neg (by simp only [beq_iff_eq]; omega)]
      by_cases k2 : K = 2
      · -- a block is given back
        rw [if_pos (by rw [k2]; rfl), drop_d hB h.crown h.len]
        generalize (S.getD i (0, 0)).2 = N at hw
        generalize (S.getD i (0, 0)).1 = T
        have hthere : (if decide (N ≥ 51) = true then if decide (N < (n : Int)) = true then if 0 ≤ (if IntKind.i64.wrap ((n : Int) - 1) < (if 0 > N then 0 else N) then IntKind.i64.wrap ((n : Int) - 1) else (if 0 > N then 0 else N)) ∧ (if IntKind.i64.wrap ((n : Int) - 1) < (if 0 > N then 0 else N) then IntKind.i64.wrap ((n : Int) - 1) else (if 0 > N then 0 else N)) < (tk.length : Int) then (some (tk.getD ((if IntKind.i64.wrap ((n : Int) - 1) < (if 0 > N then 0 else N) then IntKind.i64.wrap ((n : Int) - 1) else (if 0 > N then 0 else N))).toNat false) : Option Bool) else none else some false else some false) = some (decide ((51 ≤ N ∧ N < (n : Int)) ∧ isM (getS es 42) N = true)) := by
          by_cases h1 : N ≥ 51
          · rw [if_pos (by simpa using h1)]
            by_cases h2 : N < (n : Int)
            · have e1 : (if 0 > N then 0 else N) = N := if_neg (by omega)
              have e2 : (if IntKind.i64.wrap ((n : Int) - 1) < N then IntKind.i64.wrap ((n : Int) - 1) else N) = N := if_neg (by rw [wrap64 (by omega) (by omega)]; omega)
              rw [if_pos (by simpa using h2), e1, e2, if_pos (by rw [h.tkLen]; omega), h.tkIs N.toNat (by omega) (by omega), show ((N.toNat : Nat) : Int) = N by omega]
              cases isM (getS es 42) N with
              | true => rw [decide_eq_true ⟨⟨h1, h2⟩, rfl⟩]
              | false => rw [decide_eq_false (fun q => by cases q.2)]
            · rw [if_neg (by simpa using h2), decide_eq_false (by omega)]
          · rw [if_neg (by simpa using h1), decide_eq_false (by omega)]
        by_cases hd : (51 ≤ N ∧ N < (n : Int)) ∧ isM (getS es 42) N = true
        · obtain ⟨d1, d2⟩ := h.drop hr (a := N.toNat) (by omega) (by omega) (by rw [show ((N.toNat : Nat) : Int) = N by omega]; exact hd.2)
          rw [show ((N.toNat : Nat) : Int) = N by omega] at d2
          have e1 : (if 0 > N then 0 else N) = N := if_neg (by omega)
          have e2 : (if IntKind.i64.wrap ((n : Int) - 1) < N then IntKind.i64.wrap ((n : Int) - 1) else N) = N := if_neg (by rw [wrap64 (by omega) (by omega)]; omega)
          have ht : tk.getD N.toNat false = true := by rw [h.tkIs N.toNat (by omega) (by omega), show ((N.toNat : Nat) : Int) = N by omega]; exact hd.2
          rw [if_pos hd, Option.bind_some]
          simp only
          rw [if_pos (by rw [decide_eq_true_eq]; exact hd.1.1), if_pos (by rw [decide_eq_true_eq]; exact hd.1.2), e1, e2, if_pos (by rw [h.tkLen]; omega), ht, Option.bind_some]
          simp only
          rw [if_neg (by decide), if_pos trivial, if_pos (by rw [h.tkLen]; omega), Option.bind_some]
          simp only
          rw [wrap64 (n := (count : Int) - 1) (by omega) (by omega), wrap_succ (by omega), show (count : Int) - 1 = ((count - 1 : Nat) : Int) by omega]
          exact ⟨_, _, _, rfl, d2⟩
        · rw [if_neg hd, Option.bind_some]
          simp only
          have hfin : ∀ t : Bool, t = false → ((if (!((15 : Int) == 0) == t) = true then (none : Option Nat) else none) = none) := fun _ _ => by split <;> rfl
          by_cases h1 : N ≥ 51
          · rw [if_pos (by simpa using h1)]
            by_cases h2 : N < (n : Int)
            · have e1 : (if 0 > N then 0 else N) = N := if_neg (by omega)
              have e2 : (if IntKind.i64.wrap ((n : Int) - 1) < N then IntKind.i64.wrap ((n : Int) - 1) else N) = N := if_neg (by rw [wrap64 (by omega) (by omega)]; omega)
              have ht : tk.getD N.toNat false = false := by
                rw [h.tkIs N.toNat (by omega) (by omega), show ((N.toNat : Nat) : Int) = N by omega]
                cases hm : isM (getS es 42) N with
                | false => rfl
                | true => exact absurd ⟨⟨h1, h2⟩, hm⟩ hd
              rw [if_pos (by simpa using h2), e1, e2, if_pos (by rw [h.tkLen]; omega), ht, Option.bind_some]
              simp only
              rw [if_neg (by decide), if_neg (by simp), Option.bind_some]
              simp only
              rw [wrap_succ (by omega)]
              exact ⟨_, _, _, rfl, h⟩
            · rw [if_neg (by simpa using h2), Option.bind_some]
              simp only
              rw [if_neg (by decide), if_neg (by simp), Option.bind_some]
              simp only
              rw [wrap_succ (by omega)]
              exact ⟨_, _, _, rfl, h⟩
          · rw [if_neg (by simpa using h1), Option.bind_some]
            simp only
            rw [if_neg (by decide), if_neg (by simp), Option.bind_some]
            simp only
            rw [wrap_succ (by omega)]
            exact ⟨_, _, _, rfl, h⟩
      · rw [if_neg (by simp only [beq_iff_eq]; omega), Option.bind_some]
        simp only
        rw [wrap_succ (by omega)]
        exact ⟨_, _, _, rfl, h⟩
end

theorem once_start {n : Nat} (hr : 64 ≤ n ∧ n ≤ 400) : Once n (es0 n []) (List.replicate n false) 0 := by
  have hbig : bigM n [] = marksB n := rfl
  have hml : (marksB n).length = 128 := marksU_len n 1024
  have h42 : getS (es0 n []) 42 = marksB n := by
    unfold es0
    rw [get_mp, if_pos rfl, hbig, wholeS_id _ hml]
  have his : ∀ q : Nat, q < 1024 → isM (marksB n) (q : Int) = decide (q < 1024 ∧ (q < 51 ∨ n ≤ q)) := fun q hq => marksU_is n 1024 (Nat.le_refl _) q hq
  refine ⟨?_, by rw [h42]; exact hml, by simp, fun q q1 q2 => ?_, ?_⟩
  · unfold es0
    rw [get_mp, if_neg (by decide), get_mp, if_pos rfl]
  · rw [h42, his q (by omega), decide_eq_false (by omega), getD_lt (by simpa using q2)]
    simp
  · rw [h42]
    have : ∀ L, L ≤ n → cntF (usedF (marksB n)) L = min L 51 := by
      intro L
      induction L with
      | zero => intro _; rfl
      | succ L ih =>
        intro hL
        rw [cntF, ih (by omega)]
        have hu : usedF (marksB n) L = decide (L < 51) := by
          unfold usedF
          rw [his L (by omega)]
          by_cases e : L < 51
          · rw [decide_eq_true e]; rfl
          · rw [decide_eq_false e, decide_eq_false (by omega)]; rfl
        rw [hu]
        by_cases e : L < 51
        · rw [decide_eq_true e, show true.toNat = 1 from rfl]; omega
        · rw [decide_eq_false e, show false.toNat = 0 from rfl]; omega
    rw [this n (Nat.le_refl _)]
    omega

theorem wainwrightlaw13_StockOnce_row (x0 : Int) (x1 : List (Int × Int)) (w0 : wfD I x0) (w1 : wfD (.sl (.st (.pair I I))) x1)
    (hb : bulk I x0 + bulk (.sl (.st (.pair I I))) x1 ≤ 1048576) : wainwrightlaw13_StockOnce (x0, x1) = some true := by
  obtain ⟨n, hr, hsz⟩ := size_is x0
  obtain ⟨xs, hB, hbeg⟩ := begin_is hr []
  have hwf : ∀ p ∈ x1.take 60, p.2 < 9223372036854775808 := fun p hp => (i64_wf (w1 p (List.mem_of_mem_take hp)).2).2
  have hlen : (x1.take 60).length ≤ 60 := by simp; omega
  unfold wainwrightlaw13_StockOnce
  simp only
  rw [lives_is, Option.bind_some, if_neg (by decide), hsz, Option.bind_some, hbeg, Option.bind_some]
  simp only
  rw [early_is, Option.bind_some, if_pos (by omega), Int.toNat_natCast]
  generalize x1.take 60 = S at hwf hlen
  generalize (xs.set 0 (crownB n)).set 42 (wholeS (bigM n [])) = r1
  obtain ⟨s, ⟨es, tk, count, hs, h1⟩, hloop⟩ := loop_inv (f := wainwrightlaw13_StockOnce.l1) (fun i s => ∃ es tk count, s = ((tk, (false, 0), es, xs, r1, (0, -1), xs, []), (n : Int), S, ((count : Nat) : Int), (i : Int)) ∧ Once n es tk count) (n := S.length) (by
    rintro i s hi ⟨es, tk, count, rfl, h⟩
    obtain ⟨es', tk', count', e1, e2⟩ := once_step hB xs r1 S hlen h i hi (hwf _ (by rw [getD_lt hi]; exact List.getElem_mem hi))
    exact ⟨_, e1, es', tk', count', rfl, e2⟩) ((List.replicate n false, (false, 0), es0 n [], xs, r1, (0, -1), xs, []), (n : Int), S, 0, 0) ⟨_, _, 0, rfl, once_start hr⟩
  rw [hloop, hs, loopO_inr (r := .inl (((false, 0), es, xs, r1, (0, -1), xs, []), (n : Int), ((count : Nat) : Int))) (by
    unfold wainwrightlaw13_StockOnce.l1
    simp only
    rw [if_neg (by simp)]), Option.bind_some]
  simp only
  rw [free_d hB h1.crown h1.len, Option.bind_some]
  simp only
  have hc := h1.cnt
  rw [if_pos (by decide), cnt_low _ h1.len, hc, wrap64 (n := (n : Int) - 51) (by omega) (by omega), wrap64 (by
    have h2 := cnt_le (lowM (getS es 42)) n
    rw [cnt_low _ h1.len] at h2
    omega) (by omega)]
  have : ((n : Int) - ((51 + count : Nat) : Int) == (n : Int) - 51 - (count : Int)) = true := by
    rw [beq_iff_eq]; omega
  rw [this]
end Go.Proofs.YtiodpeekbeahlaaGreatDoor.Abs
