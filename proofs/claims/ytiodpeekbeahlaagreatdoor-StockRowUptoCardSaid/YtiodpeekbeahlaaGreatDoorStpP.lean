/- What is taken and given back, and what blocks are then, in whatever row. -/
import Derived.Test.YtiodpeekbeahlaaGreatDoorStpC
namespace Go.Proofs.YtiodpeekbeahlaaGreatDoor.Abs
open Go
set_option linter.unusedVariables false
attribute [-simp] List.getD_eq_getElem?_getD

theorem tmod_nat (x : Int) (k : Nat) (h0 : 0 < k) (h1 : k ≤ 1000) : ∃ M : Nat, M < k ∧ IntKind.i64.wrap (Int.tmod (IntKind.u64.wrap x) (k : Int)) = (M : Int) := by
  have hu : 0 ≤ IntKind.u64.wrap x := by
    simp only [IntKind.wrap, IntKind.signed, IntKind.bits]
    simp
    omega
  have a := Int.tmod_nonneg (k : Int) hu
  have b := Int.tmod_lt_of_pos (IntKind.u64.wrap x) (show (0 : Int) < (k : Int) by omega)
  exact ⟨(Int.tmod (IntKind.u64.wrap x) (k : Int)).toNat, by omega, by rw [wrap64 (by omega) (by omega)]; omega⟩

theorem size_is (x : Int) : ∃ n : Nat, (64 ≤ n ∧ n ≤ 400) ∧ wainwrightlaw13_size x = some (n : Int) := by
  obtain ⟨M, h1, h2⟩ := tmod_nat x 337 (by decide) (by decide)
  refine ⟨64 + M, by omega, ?_⟩
  unfold wainwrightlaw13_size
  change IntKind.i64.wrap (Int.tmod (IntKind.u64.wrap x) 337) = (M : Int) at h2
  rw [h2, wrap64 (by omega) (by omega)]
  simp

theorem early_is (l : List (Int × Int)) : wainwrightlaw13_early l = some (l.take 60) := by
  have hmin : (if 60 < (l.length : Int) then 60 else (l.length : Int)) = ((min 60 l.length : Nat) : Int) := by
    by_cases h : 60 < (l.length : Int)
    · rw [if_pos h]; omega
    · rw [if_neg h]; omega
  unfold wainwrightlaw13_early
  rw [hmin, if_pos (by omega), Int.toNat_natCast]
  congr 1
  rw [← List.take_take, List.take_length]

theorem loop_inv {σ τ : Type} {f : σ → Option (σ ⊕ τ)} (P : Nat → σ → Prop) {n : Nat} (hs : ∀ i s, i < n → P i s → ∃ s', f s = some (.inl s') ∧ P (i + 1) s') (s0 : σ) (h0 : P 0 s0) : ∃ s, P n s ∧ loopO f s0 = loopO f s := by
  have : ∀ k, k ≤ n → ∃ s, P k s ∧ loopO f s0 = loopO f s := by
    intro k
    induction k with
    | zero => intro _; exact ⟨s0, h0, rfl⟩
    | succ k ih =>
      intro hk
      obtain ⟨s, p, e⟩ := ih (by omega)
      obtain ⟨s', e', p'⟩ := hs k s (by omega) p
      exact ⟨s', p', by rw [e, loopO_inl e']⟩
  exact this n (Nat.le_refl _)

/-! ### The two deals agree -/

def keyS (n : Nat) (k : Int) : Prop := k = 0 ∨ 42 ≤ k ∧ k < (n : Int)

structure Pl (n m : Nat) (es : Loo) (now : List Blk) : Prop where
  crown : getS es 0 = crownB n
  nowLen : now.length = n
  now0 : now.getD 0 [] = crownB n
  same : ∀ i : Nat, 42 ≤ i → i < n → getS es (i : Int) = now.getD i []
  len : (now.getD 42 []).length = 128
  low : ∀ i : Nat, 1 ≤ i → i < 42 → now.getD i [] = zeroS
  keys : ∀ e ∈ es, keyS n e.1
  nodup : (es.map (·.1)).Nodup
  size : es.length ≤ m

theorem Pl.es42 {n m : Nat} {es : Loo} {now : List Blk} (h : Pl n m es now) (hr : 64 ≤ n ∧ n ≤ 400) : getS es 42 = now.getD 42 [] := h.same 42 (Nat.le_refl _) (by omega)

theorem mp_nodup (i : Int) (b : Blk) : ∀ es : Loo, (es.map (·.1)).Nodup → ((mp es i b).map (·.1)).Nodup
  | [], _ => by simp [show mp [] i b = [(i, b)] from rfl]
  | e :: es, h => by
    rw [List.map_cons, List.nodup_cons] at h
    rw [mp_cons]
    split
    · rename_i hi
      rw [List.map_cons, List.nodup_cons]
      exact ⟨by rw [hi]; exact h.1, h.2⟩
    · rename_i hi
      rw [List.map_cons, List.nodup_cons]
      refine ⟨fun hm => ?_, mp_nodup i b es h.2⟩
      obtain ⟨x, hx, hxe⟩ := List.mem_map.1 hm
      rcases mp_keys i b es x hx with q | q
      · exact hi (by rw [← q, hxe])
      · exact h.1 (List.mem_map.2 ⟨x, q, hxe⟩)

theorem esU_props {n : Nat} (es : Loo) (a : Nat) (ha : 51 ≤ a) (hk : ∀ e ∈ es, keyS n e.1) (hn : (es.map (·.1)).Nodup) : ∀ k, a + k ≤ n → (∀ e ∈ esU es a k, keyS n e.1) ∧ ((esU es a k).map (·.1)).Nodup ∧ (esU es a k).length ≤ es.length + k
  | 0, _ => ⟨hk, hn, Nat.le_refl _⟩
  | k + 1, h => by
    obtain ⟨h1, h2, h3⟩ := esU_props es a ha hk hn k (by omega)
    refine ⟨fun e he => ?_, mp_nodup _ _ _ h2, ?_⟩
    · rcases mp_keys _ _ _ e he with q | q
      · rw [q]; exact .inr (by omega)
      · exact h1 e q
    · have := mp_len ((a + k : Nat) : Int) zeroS (esU es a k)
      rw [esU]; omega

theorem Pl.take {n m : Nat} {es : Loo} {now : List Blk} (h : Pl n m es now) (hr : 64 ≤ n ∧ n ≤ 400) {a k : Nat} (h1 : 51 ≤ a) (h2 : a + k ≤ n) :
    Pl n (m + 401) (mp (esU es a k) 42 (taken (now.getD 42 []) a k)) (nowU now a k) := by
  have hl := h.nowLen
  obtain ⟨p1, p2, p3⟩ := esU_props es a h1 h.keys h.nodup k h2
  refine ⟨?_, by rw [nowU_len]; exact hl, ?_, fun i i1 i2 => ?_, ?_, fun i i1 i2 => ?_, fun e he => ?_, mp_nodup _ _ _ p2, ?_⟩
  · rw [get_mp, if_neg (by decide), esU_get, if_neg (by omega)]; exact h.crown
  · rw [nowU_get now a h1 k (by omega) 0 (by omega), if_neg (by omega)]; exact h.now0
  · by_cases e : i = 42
    · subst e
      rw [get_mp, if_pos (show ((42 : Nat) : Int) = 42 from rfl), nowU_42 now a h1 (by omega)]
    · rw [get_mp, if_neg (by omega), esU_get, nowU_get now a h1 k (by omega) i e]
      by_cases e2 : a ≤ i ∧ i < a + k
      · rw [if_pos e2, if_pos (by omega)]
      · rw [if_neg e2, if_neg (by omega)]
        exact h.same i i1 i2
  · rw [nowU_42 now a h1 (by omega), taken_len]; exact h.len
  · rw [nowU_get now a h1 k (by omega) i (by omega), if_neg (by omega)]; exact h.low i i1 i2
  · rcases mp_keys _ _ _ e he with q | q
    · rw [q]; exact .inr (by omega)
    · exact p1 e q
  · have := mp_len 42 (taken (now.getD 42 []) a k) (esU es a k)
    have := h.size
    omega

theorem Pl.drop {n m : Nat} {es : Loo} {now : List Blk} (h : Pl n m es now) (hr : 64 ≤ n ∧ n ≤ 400) (i : Int) :
    Pl n (m + 401) (mp es 42 (setM (now.getD 42 []) i false)) (now.set 42 (setM (now.getD 42 []) i false)) := by
  have hl := h.nowLen
  have hg : ∀ j, (now.set 42 (setM (now.getD 42 []) i false)).getD j [] = if 42 = j then setM (now.getD 42 []) i false else now.getD j [] := fun j => by
    rw [setBlk]
    by_cases e : 42 = j
    · rw [if_pos ⟨e, by omega⟩, if_pos e]
    · rw [if_neg (fun q => e q.1), if_neg e]
  refine ⟨?_, by rw [List.length_set]; exact hl, ?_, fun j i1 i2 => ?_, ?_, fun j i1 i2 => ?_, fun e he => ?_, mp_nodup _ _ _ h.nodup, ?_⟩
  · rw [get_mp, if_neg (by decide)]; exact h.crown
  · rw [hg, if_neg (by decide)]; exact h.now0
  · rw [hg, get_mp]
    by_cases e : 42 = j
    · rw [if_pos e, if_pos (by omega)]
    · rw [if_neg e, if_neg (by omega)]
      exact h.same j i1 i2
  · rw [hg, if_pos rfl, setM_len]; exact h.len
  · rw [hg, if_neg (by omega)]; exact h.low j i1 i2
  · rcases mp_keys _ _ _ e he with q | q
    · rw [q]; exact .inr (by omega)
    · exact h.keys e q
  · have := mp_len 42 (setM (now.getD 42 []) i false) es
    have := h.size
    omega

theorem Pl.mono {n m k : Nat} {es : Loo} {now : List Blk} (h : Pl n m es now) (hk : m ≤ k) : Pl n k es now := ⟨h.crown, h.nowLen, h.now0, h.same, h.len, h.low, h.keys, h.nodup, by have := h.size; omega⟩

section
variable {n : Nat} {xs : List Blk} (hB : Base n xs)
include hB

theorem used_d {es : Loo} (h0 : getS es 0 = crownB n) (hm : (getS es 42).length = 128) (i : Int) :
    stock_Used (((false, 0), es, (0, -1), xs, []), i) = some (((false, 0), es, (0, -1), xs, []), if 51 ≤ i ∧ i < (n : Int) then (isM (getS es 42) i, 0) else (false, 1)) := by
  have hr := hB.room
  unfold stock_Used
  simp only
  rw [open_d hB h0, Option.bind_some]
  simp only
  rw [if_neg (by decide), owned_is hr, Option.bind_some]
  by_cases h1 : 51 ≤ i ∧ i < (n : Int)
  · rw [decide_eq_true h1, if_neg (by decide), Is_is _ _ (by omega), if_pos h1]
    rfl
  · rw [decide_eq_false h1, if_pos (by decide), if_neg h1]

theorem step_d {m : Nat} {es : Loo} {now : List Blk} (base : List Blk) (h : Pl n m es now) (ov : Int × Int) (hw : ov.2 < 9223372036854775808) :
    ∃ es' now', wainwrightlaw13_Pair_step (((false, 0), es, base, now, (0, -1), xs, []), ov) = some (((false, 0), es', base, now', (0, -1), xs, []), true) ∧ Pl n (m + 401) es' now' := by
  have hr := hB.room
  have h42 := h.es42 hr
  have hm : (getS es 42).length = 128 := by rw [h42]; exact h.len
  obtain ⟨K, hK, hk⟩ := tmod_nat ov.1 4 (by decide) (by decide)
  change IntKind.i64.wrap (Int.tmod (IntKind.u64.wrap ov.1) 4) = (K : Int) at hk
  have hkind : wainwrightlaw13_Op_kind (ov.1, ov.2) = some (K : Int) := by
    unfold wainwrightlaw13_Op_kind
    rw [hk]
  obtain ⟨b, hb, _⟩ := best_of (now.getD 42 []) n h.len hr.2
  have hrun := fun c hc => run_d hB h.crown hm (b := b) (by rw [h42]; exact hb) c hc
  have href := fun c hc => refRun_d hr (base := base) h.nowLen h.now0 h.len hb c hc
  rw [h42] at hrun
  unfold wainwrightlaw13_Pair_step
  simp only
  rw [hkind, Option.bind_some]
  by_cases k0 : K = 0
  · rw [if_pos (by rw [k0]; rfl)]
    unfold stock_Take_1 wainwrightref13_Take
    simp only
    rw [hrun 1 (by omega), href 1 (by omega), if_neg (show ¬ (1 : Int) < 1 by omega), if_neg (show ¬ (1 : Int) < 1 by omega)]
    have hs := rowS_spec hb (c := 1) (by omega)
    generalize rowS (now.getD 42 []) n b 1 = q at hs
    obtain ⟨a, k⟩ := q
    simp only at hs ⊢
    by_cases hz : k = 0
    · rw [if_pos hz, if_pos hz, Option.bind_some, Option.bind_some]
      simp only
      rw [Option.bind_some]
      simp only
      rw [Option.bind_some]
      simp only
      rw [if_pos (by decide)]
      exact ⟨_, _, rfl, h.mono (by omega)⟩
    · rw [if_neg hz, if_neg hz, Option.bind_some, Option.bind_some]
      simp only
      rw [Option.bind_some]
      simp only
      rw [Option.bind_some]
      simp only
      rw [if_pos (by simp)]
      exact ⟨_, _, rfl, h.take hr (hs.2 (by omega)).1 (hs.2 (by omega)).2.1⟩
  · rw [if_neg (by simp only [beq_iff_eq]; omega)]
    by_cases k1 : K = 1
    · rw [if_pos (by rw [k1]; rfl), hrun _ hw, href _ hw]
      by_cases hc : ov.2 < 1
      · rw [if_pos hc, if_pos hc, Option.bind_some]
        simp only
        rw [Option.bind_some]
        simp only
        rw [if_pos (by decide), if_pos (by decide)]
        exact ⟨_, _, rfl, h.mono (by omega)⟩
      · rw [if_neg hc, if_neg hc]
        have hs := rowS_spec hb (c := ov.2) (by omega)
        generalize rowS (now.getD 42 []) n b ov.2 = q at hs
        obtain ⟨a, k⟩ := q
        simp only at hs ⊢
        by_cases hz : k = 0
        · rw [if_pos hz, if_pos hz, Option.bind_some]
          simp only
          rw [Option.bind_some]
          simp only
          rw [if_pos (by decide), if_pos (by decide)]
          exact ⟨_, _, rfl, h.mono (by omega)⟩
        · rw [if_neg hz, if_neg hz, Option.bind_some]
          simp only
          rw [Option.bind_some]
          simp only
          rw [if_pos (by simp), if_pos (by simp)]
          exact ⟨_, _, rfl, h.take hr (hs.2 (by omega)).1 (hs.2 (by omega)).2.1⟩
    · rw [if_neg (by simp only [beq_iff_eq]; omega)]
      by_cases k2 : K = 2
      · rw [if_pos (by rw [k2]; rfl), drop_d hB h.crown hm, refDrop_d hr h.nowLen h.now0 h.len, h42]
        by_cases hd : (51 ≤ ov.2 ∧ ov.2 < (n : Int)) ∧ isM (now.getD 42 []) ov.2 = true
        · rw [if_pos hd, if_pos hd, Option.bind_some]
          simp only
          rw [Option.bind_some]
          exact ⟨_, _, rfl, h.drop hr ov.2⟩
        · rw [if_neg hd, if_neg hd, Option.bind_some]
          simp only
          rw [Option.bind_some]
          exact ⟨_, _, rfl, h.mono (by omega)⟩
      · rw [if_neg (by simp only [beq_iff_eq]; omega), used_d hB h.crown hm, refUsed_d hr h.nowLen h.now0 h.len, Option.bind_some]
        simp only
        rw [Option.bind_some, free_d hB h.crown hm, Option.bind_some]
        simp only
        rw [refFreeCount_d hr h.nowLen h.now0 h.len, Option.bind_some, h42]
        rw [if_pos (by simp), if_pos (by simp), if_pos (by simp)]
        exact ⟨_, _, rfl, h.mono (by omega)⟩

/-! ### What is changed -/

theorem changed_d {m : Nat} {es : Loo} {now : List Blk} (h : Pl n m es now) (hm : m ≤ 100000) :
    deal_Deal_Changed ((false, 0), es, (0, -1), xs, []) = some (((false, 0), es, (0, -1), xs, []), (ksS es).filter fun k => getS es k != zeroS) := by
  have hr := hB.room
  have hl := hB.len
  have hks : (ksS es).length = es.length := by unfold ksS; rw [(isort_perm _).length_eq, List.length_map]
  have hsz := h.size
  have hkm : ∀ k ∈ ksS es, keyS n k ∧ k ∈ es.map (·.1) := fun k hk => by
    have hk2 := (isort_perm _).mem_iff.1 hk
    obtain ⟨e, he, rfl⟩ := List.mem_map.1 hk2
    exact ⟨h.keys e he, hk2⟩
  have hsorted : slices_Sorted es = some (es, ksS es) := by
    unfold slices_Sorted
    rw [if_pos]
    · rfl
    · refine ⟨by omega, List.all_eq_true.2 fun e he => ?_⟩
      have hke := h.keys e he
      unfold keyWf
      unfold keyS at hke
      simp only [Bool.and_eq_true, decide_eq_true_eq]
      omega
  have hbit : ∀ k ∈ ksS es, ((mget (K := I) (V := .str) es k).getD []) = getS es k := fun k hk => by
    have h1 : (mg es k).isSome = true := (mg_some k es).2 (hkm k hk).2
    change (mg es k).getD [] = (mg es k).getD zeroS
    cases hq : mg es k with
    | none => rw [hq] at h1; cases h1
    | some v => rfl
  have hloop := loop_run (f := deal_written_changes.l1) (fun i => (((false, 0), es, (0, -1), xs, [], ((ksS es).take i |>.filter fun k => getS es k != zeroS).map fun k => (k, getS es k)), ksS es, ((ksS es).length : Int), (i : Int))) (n := (ksS es).length) (r := ((false, 0), es, (0, -1), xs, [], ((ksS es).filter fun k => getS es k != zeroS).map fun k => (k, getS es k))) (fun i hi => by
    have hmem : (ksS es).getD i 0 ∈ ksS es := by rw [getD_lt hi]; exact List.getElem_mem hi
    have hk := (hkm _ hmem).1
    unfold keyS at hk
    have hlen : (((ksS es).take i |>.filter fun k => getS es k != zeroS).map fun k => (k, getS es k)).length ≤ i := by
      rw [List.length_map]
      exact Nat.le_trans (List.length_filter_le _ _) (by simp; omega)
    unfold deal_written_changes.l1 log_Log_Read
    simp only
    rw [if_pos (by simpa using hi), if_pos (by omega), getD_nat, read_is xs 0 (-1) _ (by omega), Option.bind_some, Option.bind_some, hbit _ hmem, hB.zero _ (by omega), wrap_succ (by omega), take_succ_getD hi 0, List.filter_append, List.map_append]
    generalize (ksS es).getD i 0 = kk
    by_cases hne : getS es kk = zeroS
    · rw [if_neg (by simp [hne])]
      have : List.filter (fun k => getS es k != zeroS) [kk] = [] := by simp [hne]
      rw [this, List.map_nil, List.append_nil]
    · rw [if_pos (by simp [hne]), if_pos (room (by decide) (by rw [List.length_singleton]; omega))]
      have : List.filter (fun k => getS es k != zeroS) [kk] = [kk] := by simp [hne]
      rw [this]
      rfl) (by
    unfold deal_written_changes.l1
    simp only
    rw [if_neg (by simp), List.take_length])
  unfold deal_Deal_Changed deal_written_changes
  simp only
  rw [show maps_Keys_map_int_string_int_string es = some es from rfl, Option.bind_some, hsorted, Option.bind_some]
  simp only
  have e0 : (((false, (0 : Int)), es, ((0 : Int), (-1 : Int)), xs, ([] : Loo), ([] : List (Int × Blk))), ksS es, ((ksS es).length : Int), (0 : Int)) = (((false, 0), es, (0, -1), xs, [], ((ksS es).take 0 |>.filter fun k => getS es k != zeroS).map fun k => (k, getS es k)), ksS es, ((ksS es).length : Int), ((0 : Nat) : Int)) := rfl
  rw [e0, hloop, Option.bind_some]
  simp only
  rw [Option.bind_some]
  simp only
  have hcl : ((ksS es).filter fun k => getS es k != zeroS).length ≤ 100000 := Nat.le_trans (List.length_filter_le _ _) (by omega)
  generalize (ksS es).filter (fun k => getS es k != zeroS) = L at hcl
  have hloop2 := loop_run (f := deal_Deal_Changed.l1) (fun i => (((false, 0), es, (0, -1), xs, [], L.take i), L.map (fun k => (k, getS es k)), ((L.map (fun k => (k, getS es k))).length : Int), (i : Int))) (n := L.length) (r := ((false, 0), es, (0, -1), xs, [], L)) (fun i hi => by
    unfold deal_Deal_Changed.l1
    simp only
    have hg : (L.map (fun k => (k, getS es k))).getD i (0, []) = (L.getD i 0, getS es (L.getD i 0)) := by
      rw [getD_lt (by simpa using hi), getD_lt hi, List.getElem_map]
    rw [if_pos (by simpa using hi), if_pos (by simpa using hi), getD_nat, hg, if_pos (room (by decide) (by simp; omega)), wrap_succ (by omega), take_succ_getD hi 0]) (by
    unfold deal_Deal_Changed.l1
    simp only
    rw [if_neg (by simp), List.take_length])
  have e1 : (((false, (0 : Int)), es, ((0 : Int), (-1 : Int)), xs, ([] : Loo), ([] : List Int)), L.map (fun k => (k, getS es k)), ((L.map (fun k => (k, getS es k))).length : Int), (0 : Int)) = (((false, 0), es, (0, -1), xs, [], L.take 0), L.map (fun k => (k, getS es k)), ((L.map (fun k => (k, getS es k))).length : Int), ((0 : Nat) : Int)) := rfl
  rw [e1, hloop2, Option.bind_some]

theorem refChanged_d {now : List Blk} (hl : now.length = n) : wainwrightref12_Deal_Changed_1 (xs, now) = some ((xs, now), ((List.range n).filter fun i => now.getD i [] != zeroS).map fun (i : Nat) => (i : Int)) := by
  have hr := hB.room
  have hx := hB.len
  have := loop_run (f := wainwrightref12_Deal_Changed_1.l1) (fun i => ((xs, now, ((List.range i).filter fun i => now.getD i [] != zeroS).map fun (i : Nat) => (i : Int)), (i : Int))) (n := n) (r := (xs, now, ((List.range n).filter fun i => now.getD i [] != zeroS).map fun (i : Nat) => (i : Int))) (fun i hi => by
    have hlen : (((List.range i).filter fun i => now.getD i [] != zeroS).map fun (i : Nat) => (i : Int)).length ≤ i := by
      rw [List.length_map]
      exact Nat.le_trans (List.length_filter_le _ _) (by simp)
    unfold wainwrightref12_Deal_Changed_1.l1
    simp only
    rw [if_pos (by rw [decide_eq_true_eq]; omega), if_pos (by omega), if_pos (by omega), getD_nat, getD_nat, hB.zero i hi, wrap_succ (by omega), List.range_succ, List.filter_append, List.map_append]
    by_cases hne : now.getD i [] = zeroS
    · rw [if_neg (by simp [hne])]
      have : List.filter (fun i => now.getD i [] != zeroS) [i] = [] := by simp [hne]
      rw [this, List.map_nil, List.append_nil]
    · rw [if_pos (by simp [hne]), if_pos (room (by decide) (by rw [List.length_singleton]; omega))]
      have : List.filter (fun i => now.getD i [] != zeroS) [i] = [i] := by simp [hne]
      rw [this]
      rfl) (by
    unfold wainwrightref12_Deal_Changed_1.l1
    simp only
    rw [if_neg (by rw [decide_eq_true_eq]; omega)])
  unfold wainwrightref12_Deal_Changed_1
  simp only
  rw [show (((xs, now, ([] : List Int)), (0 : Int)) : (List Blk × List Blk × List Int) × Int) = ((xs, now, ((List.range 0).filter fun i => now.getD i [] != zeroS).map fun (i : Nat) => (i : Int)), ((0 : Nat) : Int)) from rfl, this]
  rfl

theorem changed_same {m : Nat} {es : Loo} {now : List Blk} (h : Pl n m es now) :
    ((ksS es).filter fun k => getS es k != zeroS) = ((List.range n).filter fun i => now.getD i [] != zeroS).map fun (i : Nat) => (i : Int) := by
  have hr := hB.room
  have hnd : (ksS es).Nodup := h.nodup.perm (isort_perm _).symm
  have hs1 : ((ksS es).filter fun k => getS es k != zeroS).Pairwise (· ≤ ·) := List.Pairwise.filter _ (isort_sorted _)
  have hs2 : (((List.range n).filter fun i => now.getD i [] != zeroS).map fun (i : Nat) => (i : Int)).Pairwise (· ≤ ·) := by
    rw [List.pairwise_map]
    exact (List.Pairwise.filter _ List.pairwise_lt_range).imp fun h => by omega
  refine List.Perm.eq_of_pairwise (le := fun a b => a ≤ b) (fun a b _ _ h1 h2 => by omega) hs1 hs2 ?_
  refine (List.perm_ext_iff_of_nodup ?_ ?_).2 fun k => ?_
  · rw [List.nodup_iff_pairwise_ne] at hnd ⊢
    exact List.Pairwise.filter _ hnd
  · rw [List.nodup_iff_pairwise_ne, List.pairwise_map]
    exact (List.Pairwise.filter _ List.pairwise_lt_range).imp fun h => by omega
  · rw [List.mem_filter, List.mem_map]
    have hget : ∀ i : Nat, i < n → now.getD i [] ≠ zeroS → keyS n (i : Int) ∧ getS es (i : Int) = now.getD i [] := fun i hi hne => by
      by_cases e0 : i = 0
      · subst e0
        exact ⟨.inl rfl, by rw [h.now0]; exact h.crown⟩
      · by_cases e1 : i < 42
        · exact absurd (h.low i (by omega) e1) hne
        · exact ⟨.inr (by omega), h.same i (by omega) hi⟩
    constructor
    · rintro ⟨h1, h2⟩
      have h1' := (isort_perm _).mem_iff.1 h1
      obtain ⟨e, he, rfl⟩ := List.mem_map.1 h1'
      have hk := h.keys e he
      have h2' : getS es e.1 ≠ zeroS := by simpa using h2
      refine ⟨e.1.toNat, ?_, by unfold keyS at hk; omega⟩
      rw [List.mem_filter, List.mem_range]
      refine ⟨by unfold keyS at hk; omega, ?_⟩
      rcases hk with hk | hk
      · rw [hk] at h2' ⊢
        have : now.getD (0 : Int).toNat [] = crownB n := h.now0
        rw [this, ← h.crown]
        simpa using h2'
      · have := h.same e.1.toNat (by omega) (by omega)
        rw [← this, show ((e.1.toNat : Nat) : Int) = e.1 by omega]
        simpa using h2'
    · rintro ⟨i, h1, rfl⟩
      rw [List.mem_filter, List.mem_range] at h1
      have hne : now.getD i [] ≠ zeroS := by simpa using h1.2
      obtain ⟨q1, q2⟩ := hget i h1.1 hne
      refine ⟨(isort_perm _).mem_iff.2 ?_, by rw [q2]; simpa using hne⟩
      rw [← mg_some]
      cases hq : mg es (i : Int) with
      | some v => rfl
      | none =>
        exfalso
        have : getS es (i : Int) = zeroS := by unfold getS; rw [hq]; rfl
        exact hne (by rw [← q2, this])

omit hB in
theorem refSameList (l : List Int) (hl : l.length ≤ 1000000) : wainwrightref01_Same (l, l) = some true := by
  have := loop_run (f := wainwrightref01_Same.l1) (fun i => (l, l, (i : Int))) (n := l.length) (r := .inl ()) (fun i hi => by
    unfold wainwrightref01_Same.l1
    simp only
    rw [if_pos (by simpa using hi), if_pos (by omega), if_pos (by omega), if_neg (by simp), wrap_succ (by omega)]) (by
    unfold wainwrightref01_Same.l1
    simp only
    rw [if_neg (by simp)])
  unfold wainwrightref01_Same
  simp only
  rw [if_neg (by simp), show ((l, l, (0 : Int)) : List Int × List Int × Int) = (l, l, ((0 : Nat) : Int)) from rfl, this]
  rfl

theorem same_d {m : Nat} {es : Loo} {now : List Blk} (h : Pl n m es now) (hm : m ≤ 100000) : ∃ s, wainwrightlaw13_Pair_same ((false, 0), es, xs, now, (0, -1), xs, []) = some (s, true) := by
  have hr := hB.room
  have hl := h.nowLen
  have := loop_run (f := wainwrightlaw13_Pair_same.l1) (fun t => (((false, 0), es, xs, now, (0, -1), xs, []), ((42 + t : Nat) : Int))) (n := n - 42) (r := .inl ((false, 0), es, xs, now, (0, -1), xs, [])) (fun t ht => by
    unfold wainwrightlaw13_Pair_same.l1
    simp only
    rw [if_pos (by rw [decide_eq_true_eq]; omega), read_d hB es _ (there_i hB (.inr (by omega))), Option.bind_some]
    simp only
    rw [if_pos (by decide), if_pos (by omega), getD_nat, h.same (42 + t) (by omega) (by omega), if_neg (by simp), wrap_succ (by omega)]
    rfl) (by
    unfold wainwrightlaw13_Pair_same.l1
    simp only
    rw [if_neg (by rw [decide_eq_true_eq]; omega)])
  have hlen : ((ksS es).filter fun k => getS es k != zeroS).length ≤ 1000000 := by
    have hks : (ksS es).length = es.length := by unfold ksS; rw [(isort_perm _).length_eq, List.length_map]
    have := h.size
    exact Nat.le_trans (List.length_filter_le _ _) (by omega)
  refine ⟨((false, 0), es, xs, now, (0, -1), xs, []), ?_⟩
  unfold wainwrightlaw13_Pair_same
  simp only
  rw [show ((((false, 0), es, xs, now, (0, -1), xs, []), (42 : Int)) : ((Bool × Int) × Loo × List Blk × List Blk × (Int × Int) × List Blk × Loo) × Int) = (((false, 0), es, xs, now, (0, -1), xs, []), ((42 + 0 : Nat) : Int)) from rfl, this, Option.bind_some]
  simp only
  rw [changed_d hB h hm, Option.bind_some]
  simp only
  rw [refChanged_d hB hl, Option.bind_some]
  simp only
  rw [← changed_same hB h, refSameList _ hlen]
  rfl
end

theorem start_d {n : Nat} {xs : List Blk} (hB : Base n xs) (m : Blk) : Pl n 2 (es0 n m) ((xs.set 0 (crownB n)).set 42 (wholeS (bigM n m))) := by
  have hr := hB.room
  have hl := hB.len
  have hg : ∀ j, ((xs.set 0 (crownB n)).set 42 (wholeS (bigM n m))).getD j [] = if 42 = j then wholeS (bigM n m) else if 0 = j then crownB n else xs.getD j [] := fun j => by
    rw [setBlk, List.length_set, setBlk]
    by_cases e : 42 = j
    · rw [if_pos ⟨e, by omega⟩, if_pos e]
    · rw [if_neg (fun q => e q.1), if_neg e]
      by_cases e2 : 0 = j
      · rw [if_pos ⟨e2, by omega⟩, if_pos e2]
      · rw [if_neg (fun q => e2 q.1), if_neg e2]
  have hes : es0 n m = [(0, crownB n), (42, wholeS (bigM n m))] := rfl
  refine ⟨?_, by rw [List.length_set, List.length_set]; exact hl, ?_, fun i i1 i2 => ?_, ?_, fun i i1 i2 => ?_, fun e he => ?_, ?_, by rw [hes]; exact Nat.le_refl _⟩
  · unfold es0
    rw [get_mp, if_neg (by decide), get_mp, if_pos rfl]
  · rw [hg, if_neg (by decide), if_pos rfl]
  · unfold es0
    rw [hg, get_mp]
    by_cases e : 42 = i
    · rw [if_pos e, if_pos (by omega)]
    · rw [if_neg e, if_neg (by omega), get_mp, if_neg (by omega), if_neg (by omega), hB.zero i i2]
      rfl
  · rw [hg, if_pos rfl]; exact wholeS_len _
  · rw [hg, if_neg (by omega), if_neg (by omega)]; exact hB.zero i (by omega)
  · rw [hes] at he
    rcases List.mem_cons.1 he with rfl | he
    · exact .inl rfl
    · rw [List.mem_singleton] at he
      subst he
      exact .inr (by simp only; omega)
  · rw [hes]
    simp

theorem wainwrightlaw13_StockPlays_row (x0 : Int) (x1 : Blk) (x2 : List (Int × Int)) (w0 : wfD I x0) (w1 : wfD .str x1) (w2 : wfD (.sl (.st (.pair I I))) x2)
    (hb : bulk I x0 + bulk .str x1 + bulk (.sl (.st (.pair I I))) x2 ≤ 1048576) : wainwrightlaw13_StockPlays (x0, x1, x2) = some true := by
  obtain ⟨n, hr, hsz⟩ := size_is x0
  obtain ⟨xs, hB, hbeg⟩ := begin_is hr x1
  have hst := start_d hB x1
  have hwf : ∀ p ∈ x2.take 60, p.2 < 9223372036854775808 := fun p hp => (i64_wf (w2 p (List.mem_of_mem_take hp)).2).2
  have hlen : (x2.take 60).length ≤ 60 := by simp; omega
  unfold wainwrightlaw13_StockPlays
  simp only
  rw [lives_is, Option.bind_some, if_neg (by decide), hsz, Option.bind_some, hbeg, Option.bind_some]
  simp only
  rw [early_is, Option.bind_some]
  generalize x2.take 60 = S at hwf hlen
  generalize (xs.set 0 (crownB n)).set 42 (wholeS (bigM n x1)) = r1 at hst
  obtain ⟨s, ⟨es, now, hs, h1⟩, hloop⟩ := loop_inv (f := wainwrightlaw13_StockPlays.l1) (fun i s => ∃ es now, s = (((false, 0), es, xs, now, (0, -1), xs, []), S, (i : Int)) ∧ Pl n (2 + 401 * i) es now) (n := S.length) (by
    rintro i s hi ⟨es, now, rfl, h⟩
    obtain ⟨es', now', e1, e2⟩ := step_d hB xs h (S.getD i (0, 0)) (hwf _ (by rw [getD_lt hi]; exact List.getElem_mem hi))
    refine ⟨_, ?_, es', now', rfl, e2.mono (by omega)⟩
    unfold wainwrightlaw13_StockPlays.l1
    simp only
    rw [if_pos (by simpa using hi), if_pos (by omega), getD_nat]
    change (wainwrightlaw13_Pair_step (((false, 0), es, xs, now, (0, -1), xs, []), S.getD i (0, 0))).bind _ = _
    rw [e1, Option.bind_some]
    simp only
    rw [if_neg (by decide), wrap_succ (by omega)]) (((false, 0), es0 n x1, xs, r1, (0, -1), xs, []), S, 0) ⟨_, _, rfl, hst⟩
  rw [hloop, hs, loopO_inr (r := .inl ((false, 0), es, xs, now, (0, -1), xs, [])) (by
    unfold wainwrightlaw13_StockPlays.l1
    simp only
    rw [if_neg (by simp)]), Option.bind_some]
  simp only
  obtain ⟨s2, hs2⟩ := same_d hB h1 (by omega)
  rw [hs2]
  rfl
end Go.Proofs.YtiodpeekbeahlaaGreatDoor.Abs
