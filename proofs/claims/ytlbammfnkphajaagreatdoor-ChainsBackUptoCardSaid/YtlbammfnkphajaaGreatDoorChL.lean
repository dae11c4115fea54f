/- Chains: files come back, row by row. -/
import Derived.Test.YtlbammfnkphajaaGreatDoorChJ
namespace Go.Proofs.YtlbammfnkphajaaGreatDoor.Abs
open Go
set_option linter.unusedVariables false
attribute [-simp] List.getD_eq_getElem?_getD

/-! ### How many lists a map asks -/

theorem at_s (m : List Int) (i : Nat) : rf05_at (m, (i : Int)) = some (m.getD i 0) := by
  unfold rf05_at
  dsimp only
  rw [if_pos (by rw [decide_eq_false_iff_not]; omega)]
  by_cases h : i < m.length
  · rw [if_neg (by rw [decide_eq_true_eq]; omega), if_pos (by omega), Int.toNat_natCast]
  · rw [if_pos (by rw [decide_eq_true_eq]; omega)]
    simp [List.getD, List.getElem?_eq_none (Nat.le_of_not_lt h)]

theorem list5_s (m : List Int) (a : Nat) (ha : a ≤ 1000) : rf05_List (m, (a : Int)) = some (lst (row m a)) := by
  have hloop := loop_run (f := rf05_List.l1) (fun i => ((row m a).take i, m, (a : Int), ((row m a).take i).any (fun x => x != 0), (i : Int))) (n := 8) (r := (row m a, (row m a).any fun x => x != 0)) (fun i hi => by
    have hlen : ((row m a).take i).length = i := by rw [List.length_take, row_len]; omega
    have hi2 : i < (row m a).length := by rw [row_len]; exact hi
    have hx : (row m a)[i] = m.getD (a + i) 0 := by simp [row]
    have ew : IntKind.i64.wrap ((a : Int) + (i : Int)) = ((a + i : Nat) : Int) := by rw [wrap64 (by omega) (by omega)]; omega
    unfold rf05_List.l1
    dsimp only
    rw [if_pos (by rw [decide_eq_true_eq]; omega), ew, at_s, Option.bind_some, if_pos (room (by decide) (by rw [hlen, List.length_singleton]; omega)), wrap_succ (by omega), List.take_succ_eq_append_getElem hi2, hx, List.any_append]
    cases hany : ((row m a).take i).any fun x => x != 0 with
    | false =>
      rw [if_pos rfl, Option.bind_some, Bool.false_or]
      simp
    | true =>
      rw [if_neg (by decide), Bool.true_or]) (by
    unfold rf05_List.l1
    dsimp only
    rw [if_neg (by decide), List.take_of_length_le (by rw [row_len]; decide)])
  have hloop : loopO rf05_List.l1 ([], m, (a : Int), false, 0) = _ := hloop
  unfold rf05_List
  dsimp only
  rw [hloop, Option.bind_some]
  dsimp only
  unfold lst
  cases (row m a).any fun x => x != 0 with
  | false => rw [if_pos (by decide), if_neg (by decide)]
  | true => rw [if_neg (by decide), if_pos rfl]

theorem double5_s (m : List Int) : rf05_Double m = some (rDD m) := by
  have hr : (rRows m).length = 8 := by simp [rRows]
  have hloop := loop_run (f := rf05_Double.l1) (fun i => ((rRows m).take i, m, ((rRows m).take i).any (fun l => !l.isEmpty), (i : Int))) (n := 8) (r := (rRows m, (rRows m).any fun l => !l.isEmpty)) (fun i hi => by
    have hlen : ((rRows m).take i).length = i := by rw [List.length_take, hr]; omega
    have hi2 : i < (rRows m).length := by rw [hr]; exact hi
    have hx : (rRows m)[i] = lst (row m (12 + 8 * i)) := by simp [rRows]
    have ew : IntKind.i64.wrap (12 + IntKind.i64.wrap (8 * (i : Int))) = ((12 + 8 * i : Nat) : Int) := by rw [wrap64 (n := 8 * (i : Int)) (by omega) (by omega), wrap64 (by omega) (by omega)]; omega
    have hl : decide (((lst (row m (12 + 8 * i))).length : Int) > 0) = !(lst (row m (12 + 8 * i))).isEmpty := by
      cases lst (row m (12 + 8 * i)) with
      | nil => rfl
      | cons a l => rw [decide_eq_true (by rw [List.length_cons]; omega)]; rfl
    unfold rf05_Double.l1
    dsimp only
    rw [if_pos (by rw [decide_eq_true_eq]; omega), ew, list5_s m _ (by omega), Option.bind_some, if_pos (room (by decide) (by rw [hlen, List.length_singleton]; omega)), wrap_succ (by omega), List.take_succ_eq_append_getElem hi2, hx, List.any_append, hl]
    cases hany : ((rRows m).take i).any fun l => !l.isEmpty with
    | false =>
      rw [if_pos rfl, Bool.false_or]
      simp
    | true =>
      rw [if_neg (by decide), Bool.true_or]) (by
    unfold rf05_Double.l1
    dsimp only
    rw [if_neg (by decide), List.take_of_length_le (by rw [hr]; decide)])
  have hloop : loopO rf05_Double.l1 ([], m, false, 0) = _ := hloop
  unfold rf05_Double
  rw [hloop, Option.bind_some]
  dsimp only
  unfold rDD
  cases (rRows m).any fun l => !l.isEmpty with
  | false => rw [if_pos (by decide), if_neg (by decide)]
  | true => rw [if_neg (by decide), if_pos rfl]

theorem fits_s {n : Nat} (hn : n ≤ 400) (m : List Int) (hm : m.length ≤ 60000) (he : entries n m) : rf05_Fits m = some (if overM m = true then 12 else 0) := by
  obtain ⟨j, hj1, hj, hb, hs, hrun⟩ := loop_first (f := rf05_Fits.l1) (fun i => (m, (i : Int))) (fun i => m.getD i 0 != 0) (n := max 76 m.length) (r := fun i => if i < m.length then .inr 12 else .inl m) (max 76 m.length - 76) 76 (by omega) (fun i h1 h2 => by
    unfold rf05_Fits.l1
    dsimp only
    have hi : i < m.length := by omega
    rw [if_pos (by simpa using hi), if_pos (by omega), Int.toNat_natCast]
    by_cases q : (m.getD i 0 != 0) = true
    · rw [if_pos q, if_pos q, if_pos hi]
    · rw [if_neg q, if_neg q, wrap_succ (by omega)]) (by
    unfold rf05_Fits.l1
    dsimp only
    rw [if_neg (by simp; omega), if_neg (by omega)])
  have hrun : loopO rf05_Fits.l1 (m, 76) = _ := hrun
  unfold rf05_Fits
  rw [hrun, Option.bind_some]
  by_cases hjl : j < m.length
  · have hjm : j < max 76 m.length := by omega
    have h1 := hs hjm
    have ho : overM m = true := by
      unfold overM
      rw [List.any_eq_true]
      refine ⟨m[j], ?_, by rw [getD_lt hjl] at h1; exact h1⟩
      have e : 76 + (j - 76) = j := by omega
      have h2 : (m.drop 76)[j - 76]'(by rw [List.length_drop]; omega) = m[j] := by
        simp only [List.getElem_drop, e]
      rw [← h2]
      exact List.getElem_mem _
    rw [if_pos hjl, ho]
    rfl
  · have ho : overM m = false := by
      unfold overM
      rw [List.any_eq_false]
      intro x hx
      obtain ⟨i, hi, rfl⟩ := List.getElem_of_mem hx
      rw [List.length_drop] at hi
      have := hb (76 + i) (by omega) (by omega)
      rw [getD_lt (by omega)] at this
      rw [List.getElem_drop, this]
      decide
    rw [if_neg hjl, ho]
    dsimp only
    have hloop := loop_run (f := rf05_Fits.l2) (fun i => (m, (i : Int))) (n := m.length) (r := .inl ()) (fun i hi => by
      have hx : 0 ≤ m.getD i 0 ∧ m.getD i 0 ≤ 65535 := by
        rcases entry he i with q | q
        · omega
        · have := own_bounds q
          omega
      unfold rf05_Fits.l2
      dsimp only
      rw [if_pos (by simpa using hi), if_pos (by omega), Int.toNat_natCast, if_pos (by rw [decide_eq_false_iff_not]; omega), if_pos (by omega), if_neg (by rw [decide_eq_true_eq]; omega), wrap_succ (by omega)]) (by
      unfold rf05_Fits.l2
      dsimp only
      rw [if_neg (by simp)])
    have hloop : loopO rf05_Fits.l2 (m, 0) = _ := hloop
    rw [hloop, Option.bind_some]
    rfl

theorem cnt_loop (dd : List (List Int)) (hd : dd.length ≤ 1000) (a : Nat) (ha : a ≤ 10) : loopO rf14_Lists.l1 ((a : Int), dd, 0) = some ((a + cntL dd : Nat) : Int) := by
  have := loop_run (f := rf14_Lists.l1) (fun i => (((a + cntL (dd.take i) : Nat) : Int), dd, (i : Int))) (n := dd.length) (r := ((a + cntL dd : Nat) : Int)) (fun i hi => by
    have hcl := cntL_le (dd.take i)
    rw [List.length_take] at hcl
    have hl : decide ((dd[i].length : Int) > 0) = !dd[i].isEmpty := by
      cases dd[i] with
      | nil => rfl
      | cons a l => rw [decide_eq_true (by rw [List.length_cons]; omega)]; rfl
    unfold rf14_Lists.l1
    dsimp only
    rw [if_pos (by simpa using hi), if_pos (by omega), Int.toNat_natCast, getD_lt hi, List.take_succ_eq_append_getElem hi, hl, wrap_succ (by omega), wrap_succ (by omega)]
    unfold cntL
    rw [List.filter_append, List.length_append]
    by_cases q : (!dd[i].isEmpty) = true
    · rw [if_pos q, List.filter_cons_of_pos (by exact q)]
      rfl
    · rw [if_neg q, List.filter_cons_of_neg (by exact q)]
      rfl) (by
    unfold rf14_Lists.l1
    dsimp only
    rw [if_neg (by simp), List.take_length])
  simpa [cntL] using this

theorem lists_ref {n : Nat} (hn : n ≤ 400) (m : List Int) (hm : m.length ≤ 60000) (he : entries n m) : rf14_Lists m = some (if overM m = true then -1 else ((nbM m : Nat) : Int)) := by
  have hdl : (rDD m).length ≤ 8 := by
    unfold rDD
    split
    · simp [rRows]
    · simp
  unfold rf14_Lists
  rw [fits_s hn m hm he, Option.bind_some]
  cases overM m with
  | true => rw [if_pos (by decide), if_pos rfl]
  | false =>
    have h4 : rf05_List (m, 4) = some (rS m) := list5_s m 4 (by decide)
    have hp : ∀ {α : Type} (l : List α), decide ((l.length : Int) > 0) = !l.isEmpty := fun l => by
      cases l with
      | nil => rfl
      | cons a l => rw [decide_eq_true (by rw [List.length_cons]; omega)]; rfl
    rw [if_neg (by decide), if_neg (by decide), h4, Option.bind_some, hp]
    unfold nbM nbS
    by_cases h1 : (!(rS m).isEmpty) = true
    · rw [if_pos h1, if_pos h1, Option.bind_some]
      dsimp only
      rw [double5_s, Option.bind_some, hp]
      by_cases h2 : (!(rDD m).isEmpty) = true
      · rw [if_pos h2, if_pos h2, Option.bind_some]
        dsimp only
        rw [show IntKind.i64.wrap (IntKind.i64.wrap (0 + 1) + 1) = ((2 : Nat) : Int) from by decide, cnt_loop _ (by omega) 2 (by decide)]
        rfl
      · rw [if_neg h2, if_neg h2, Option.bind_some]
        dsimp only
        rw [show IntKind.i64.wrap (0 + 1) = ((1 : Nat) : Int) from by decide, cnt_loop _ (by omega) 1 (by decide)]
        rfl
    · rw [if_neg h1, if_neg h1, Option.bind_some]
      dsimp only
      rw [double5_s, Option.bind_some, hp]
      by_cases h2 : (!(rDD m).isEmpty) = true
      · rw [if_pos h2, if_pos h2, Option.bind_some]
        dsimp only
        rw [show IntKind.i64.wrap (0 + 1) = ((1 : Nat) : Int) from by decide, cnt_loop _ (by omega) 1 (by decide)]
        rfl
      · rw [if_neg h2, if_neg h2, Option.bind_some]
        dsimp only
        have h0 := cnt_loop (rDD m) (by omega) 0 (by decide)
        have h0 : loopO rf14_Lists.l1 (0, rDD m, 0) = _ := h0
        rw [h0]
        rfl

/-! ### The blocks are in use, and no two are one -/

def st8 (k : Card) (w : Loo) (n : Nat) (maps : List (List Int)) (m : List Int) (i : Int) : (Card × (Bool × Int) × Loo × (Int × Int) × List Blk × Loo) × List (List Int) × Int × List Int × Int := ((k, (false, 0), w, (0, -1), newX n, []), maps, (n : Int), m, i)

theorem back_l3 {n : Nat} (k : Card) (w : Loo) (maps : List (List Int)) (m : List Int) (i8 : Int) (bs : List Int) (hn : bs.Nodup) (hl : bs.length ≤ 1000) (q : Nat) (hq : q < bs.length) :
    loopO lw14_ChainsBack.l3 ((k, (false, 0), w, (0, -1), newX n, []), maps, (n : Int), m, i8, bs, (q : Int), 0) = some (.inl ((k, (false, 0), w, (0, -1), newX n, []), maps, (n : Int), m, i8, bs, (q : Int))) := by
  have := loop_run (f := lw14_ChainsBack.l3) (fun j => ((k, (false, 0), w, (0, -1), newX n, []), maps, (n : Int), m, i8, bs, (q : Int), (j : Int))) (n := q) (r := .inl ((k, (false, 0), w, (0, -1), newX n, []), maps, (n : Int), m, i8, bs, (q : Int))) (fun j hj => by
    have hne : ¬ (bs.getD j 0 == bs.getD q 0) = true := by
      rw [getD_lt (show j < bs.length by omega), getD_lt hq]
      intro h
      have h2 := (List.getElem_inj hn).1 (by simpa using h)
      omega
    obtain ⟨k1, k2, k3, k4, k5, k6, k7, k8, k9⟩ := k
    unfold lw14_ChainsBack.l3
    dsimp only
    rw [if_pos (by simpa using hj), if_pos (by omega), if_pos (by omega), Int.toNat_natCast, Int.toNat_natCast, if_neg hne, wrap_succ (by omega)]) (by
    obtain ⟨k1, k2, k3, k4, k5, k6, k7, k8, k9⟩ := k
    unfold lw14_ChainsBack.l3
    dsimp only
    rw [if_neg (by simp)])
  exact this

theorem back_l2 {n T : Nat} {k0 : Card} {w : Loo} {k : Card} {bs m : List Int} (h : Kept n T k0 w k bs m) (maps : List (List Int)) (i8 : Int) :
    loopO lw14_ChainsBack.l2 ((k, (false, 0), w, (0, -1), newX n, []), maps, (n : Int), m, i8, bs, 0) = some (.inl ((k, (false, 0), w, (0, -1), newX n, []), maps, (n : Int), m, i8)) := by
  have hfew := h.filed.few
  have := loop_run (f := lw14_ChainsBack.l2) (fun j => ((k, (false, 0), w, (0, -1), newX n, []), maps, (n : Int), m, i8, bs, (j : Int))) (n := bs.length) (r := .inl ((k, (false, 0), w, (0, -1), newX n, []), maps, (n : Int), m, i8)) (fun j hj => by
    have hu := h.filed.used (bs.getD j 0) (by rw [getD_lt hj]; exact List.getElem_mem hj)
    have h3 := back_l3 (n := n) k w maps m i8 bs h.filed.nodup (by omega) j hj
    obtain ⟨k1, k2, k3, k4, k5, k6, k7, k8, k9⟩ := k
    unfold lw14_ChainsBack.l2
    dsimp only
    rw [if_pos (by simpa using hj), if_pos (by omega), Int.toNat_natCast, used_s h.disk 0 (-1) false 0 _ hu.1, hu.2, Option.bind_some]
    dsimp only
    rw [if_pos (by decide), if_neg (by decide), h3, Option.bind_some]
    dsimp only
    rw [wrap_succ (by omega)]) (by
    obtain ⟨k1, k2, k3, k4, k5, k6, k7, k8, k9⟩ := k
    unfold lw14_ChainsBack.l2
    dsimp only
    rw [if_neg (by simp)])
  exact this

theorem back_step {n : Nat} (hr : 64 ≤ n ∧ n ≤ 400) (maps : List (List Int)) (hm : ∀ m ∈ maps, m.length ≤ 1048576) (i : Nat) (hi : i < maps.length) (hi2 : i < 12) {w : Loo} {k : Card} {bs m : List Int} (h : Kept n (n - 51) fresh w k bs m) (ho : overM m = false) (hml : m.length ≤ 200) :
    ∃ w' k' bs' m', lw14_ChainsBack.l1 (st8 k w n maps m (i : Int)) = some (.inl (st8 k' w' n maps m' ((i + 1 : Nat) : Int))) ∧ Kept n (n - 51) fresh w' k' bs' m' ∧ overM m' = false ∧ m'.length ≤ 200 := by
  have hfl := h.disk.full.len
  have hcl := chW_len n (newX n) w
  have ht := h.tot
  have hfew := h.filed.few
  have hcnt := h.cnt
  have hmi : (maps.getD i []).length ≤ 1048576 := by rw [getD_lt hi]; exact hm _ (List.getElem_mem hi)
  have hin := inside_s hr (maps.getD i []) hmi
  have hil := inside_len n (maps.getD i [])
  have hie := inside_entries hr (maps.getD i [])
  generalize insideS n (maps.getD i []) = M at hin hil hie
  have hch := changed_d hfl (by omega) h.disk.wf 0 (-1) false 0
  have hfree := kept_free h 0 (-1) false 0
  have hlm := lists_ref hr.2 M (by omega) hie
  have hln := lists_ref hr.2 m (by omega) h.ents
  rw [ho, if_neg (c := false = true) (by decide), ← hcnt] at hln
  have hsm : rf01_Same ((chW n (newX n) w).map (·.1), (chW n (newX n) w).map (·.1)) = some true := Sn.sameInts _ (by rw [List.length_map]; omega)
  have hpm := nbM_le M
  cases hoM : overM M with
  | true =>
    rw [hoM, if_pos rfl] at hlm
    have hsv := kept_over h 0 (-1) false 0 M (by omega) hie hoM
    refine ⟨w, k, bs, m, ?_, h, ho, hml⟩
    obtain ⟨k1, k2, k3, k4, k5, k6, k7, k8, k9⟩ := k
    unfold lw14_ChainsBack.l1 st8
    dsimp only
    rw [if_pos (by simpa using hi), if_pos (by rw [decide_eq_true_eq]; omega), if_pos (by omega), Int.toNat_natCast, hin, Option.bind_some, hch, Option.bind_some]
    dsimp only
    rw [hfree, Option.bind_some]
    dsimp only
    rw [hsv, Option.bind_some]
    dsimp only
    rw [hlm, Option.bind_some, hfree, Option.bind_some]
    dsimp only
    rw [if_pos (by decide), if_pos (by decide), hch, Option.bind_some]
    dsimp only
    rw [hsm, Option.bind_some, if_neg (by decide), wrap_succ (by omega)]
  | false =>
    rw [hoM, if_neg (c := false = true) (by decide)] at hlm
    by_cases hfit : nbM M ≤ n - 51
    · obtain ⟨w', k', bs', hsv, g⟩ := kept_save h 0 (-1) false 0 M (by omega) hie hoM hfit
      have hfree' := kept_free g 0 (-1) false 0
      have hload := kept_load g 0 (-1) false 0
      have hlists := kept_lists g 0 (-1) false 0
      have hl2 := back_l2 g maps (i : Int)
      have hgt := g.tot
      have hgc := g.cnt
      refine ⟨w', k', bs', M, ?_, g, hoM, hil⟩
      obtain ⟨k1, k2, k3, k4, k5, k6, k7, k8, k9⟩ := k
      obtain ⟨q1, q2, q3, q4, q5, q6, q7, q8, q9⟩ := k'
      unfold lw14_ChainsBack.l1 st8
      dsimp only
      rw [if_pos (by simpa using hi), if_pos (by rw [decide_eq_true_eq]; omega), if_pos (by omega), Int.toNat_natCast, hin, Option.bind_some, hch, Option.bind_some]
      dsimp only
      rw [hfree, Option.bind_some]
      dsimp only
      rw [hsv, Option.bind_some]
      dsimp only
      rw [hlm, Option.bind_some, hfree', Option.bind_some]
      dsimp only
      rw [if_neg (by rw [decide_eq_true_eq]; omega), hln, Option.bind_some, wrap64 (n := ((n - 51 - bs.length : Nat) : Int) + (bs.length : Int)) (by omega) (by omega), if_neg (by rw [decide_eq_true_eq]; omega), if_pos (by decide), if_pos (by decide), wrap64 (by omega) (by omega), if_neg (by rw [bne_iff_ne]; omega), hload, Option.bind_some]
      dsimp only
      rw [hlists, Option.bind_some]
      dsimp only
      rw [if_pos (by decide), if_pos (by decide), wide_s M (by omega), Option.bind_some, Sn.sameInts _ (by rw [wid_len]; decide), Option.bind_some, if_pos (by decide), if_neg (by rw [bne_iff_ne]; omega), hl2, Option.bind_some]
      dsimp only
      rw [wrap_succ (by omega)]
    · have hsv := kept_full h 0 (-1) false 0 M (by omega) hie hoM (by omega)
      refine ⟨w, k, bs, m, ?_, h, ho, hml⟩
      obtain ⟨k1, k2, k3, k4, k5, k6, k7, k8, k9⟩ := k
      unfold lw14_ChainsBack.l1 st8
      dsimp only
      rw [if_pos (by simpa using hi), if_pos (by rw [decide_eq_true_eq]; omega), if_pos (by omega), Int.toNat_natCast, hin, Option.bind_some, hch, Option.bind_some]
      dsimp only
      rw [hfree, Option.bind_some]
      dsimp only
      rw [hsv, Option.bind_some]
      dsimp only
      rw [hlm, Option.bind_some, hfree, Option.bind_some]
      dsimp only
      rw [if_neg (by rw [decide_eq_true_eq]; omega), hln, Option.bind_some, wrap64 (n := ((n - 51 - bs.length : Nat) : Int) + (bs.length : Int)) (by omega) (by omega), if_pos (by rw [decide_eq_true_eq]; omega), if_pos (by decide), if_pos (by simp), hch, Option.bind_some]
      dsimp only
      rw [hsm, Option.bind_some, if_neg (by decide), wrap_succ (by omega)]

theorem lw14_ChainsBack_row (x0 : List (List Int)) (x1 : Int) (w0' : wfD (.sl (.sl I)) x0) (w1 : wfD I x1) (hb : bulk (.sl (.sl I)) x0 + bulk I x1 ≤ 1048576) : lw14_ChainsBack (x0, x1) = some true := by
  obtain ⟨M, hM, hw⟩ := tmod_nat x1 337 (by decide) (by decide)
  change IntKind.i64.wrap (Int.tmod (IntKind.u64.wrap x1) 337) = (M : Int) at hw
  have hN : IntKind.i64.wrap (64 + (M : Int)) = ((64 + M : Nat) : Int) := by rw [wrap64 (by omega) (by omega)]; omega
  have hr : 64 ≤ 64 + M ∧ 64 + M ≤ 400 := by omega
  generalize 64 + M = n at hN hr
  have hx := bulk_lists x0 (by omega)
  have hx2 : ∀ m ∈ x0, m.length ≤ 1048576 := fun m hm => mem_lists (by omega) hm
  obtain ⟨s, ⟨w, k, bs, m, rfl, hK, _, _⟩, hloop⟩ := loop_inv (f := lw14_ChainsBack.l1) (fun i s => ∃ w k bs m, s = st8 k w n x0 m (i : Int) ∧ Kept n (n - 51) fresh w k bs m ∧ overM m = false ∧ m.length ≤ 200) (n := min 12 x0.length) (by
    rintro i s hi ⟨w, k, bs, m, rfl, h1, h2, h3⟩
    obtain ⟨w', k', bs', m', e, g1, g2, g3⟩ := back_step hr x0 hx2 i (by omega) (by omega) h1 h2 h3
    exact ⟨_, e, w', k', bs', m', rfl, g1, g2, g3⟩) (st8 fresh (w0 n) n x0 [] 0) ⟨_, _, _, _, rfl, kept_new hr, rfl, by decide⟩
  have hend : lw14_ChainsBack.l1 (st8 k w n x0 m ((min 12 x0.length : Nat) : Int)) = some (.inr (.inl k)) := by
    obtain ⟨k1, k2, k3, k4, k5, k6, k7, k8, k9⟩ := k
    unfold lw14_ChainsBack.l1 st8
    dsimp only
    by_cases h12 : x0.length ≤ 12
    · rw [if_neg (by rw [decide_eq_true_eq]; omega)]
    · rw [if_pos (by rw [decide_eq_true_eq]; omega), if_neg (by rw [decide_eq_true_eq]; omega)]
  have hl2 : loopO lw14_ChainsBack.l1 ((fresh, (false, 0), w0 n, (0, -1), newX n, []), x0, (n : Int), [], 0) = some (.inl k) := hloop.trans (loopO_inr hend)
  have hright := (may1_parts hK.filed.card).2.1
  have hrc := refRight_c k hK.filed.len.c
  rw [hright] at hrc
  unfold lw14_ChainsBack
  dsimp only
  rw [lives_is, Option.bind_some, if_neg (by decide), hw, hN, begin_is hr, Option.bind_some]
  dsimp only
  rw [fresh_is, Option.bind_some, hl2, Option.bind_some]
  obtain ⟨k1, k2, k3, k4, k5, k6, k7, k8, k9⟩ := k
  dsimp only
  rw [hrc, Option.bind_some]

end Go.Proofs.YtlbammfnkphajaaGreatDoor.Abs
