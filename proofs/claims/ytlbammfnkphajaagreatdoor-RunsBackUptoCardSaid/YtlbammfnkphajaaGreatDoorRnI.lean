/- Runs: files come back, row by row. -/
import Derived.Test.YtlbammfnkphajaaGreatDoorRnH
namespace Go.Proofs.YtlbammfnkphajaaGreatDoor.Abs
open Go
set_option linter.unusedVariables false
attribute [-simp] List.getD_eq_getElem?_getD

/-! ### How many lists a map asks -/

theorem lists_ref (m : List Int) (hm : m.length ≤ 60000) : rf15_Lists m = some (if overM m = true then -1 else ((pagesS (spS m)).length : Int)) := by
  obtain ⟨j, hj1, hj, hb, hs, hrun⟩ := loop_first (f := rf15_Lists.l1) (fun i => (m, (i : Int))) (fun i => m.getD i 0 != 0) (n := max 120 m.length) (r := fun i => if i < m.length then .inr (-1) else .inl m) (max 120 m.length - 120) 120 (by omega) (fun i h1 h2 => by
    unfold rf15_Lists.l1
    dsimp only
    have hi : i < m.length := by omega
    rw [if_pos (by simpa using hi), if_pos (by omega), Int.toNat_natCast]
    by_cases q : (m.getD i 0 != 0) = true
    · rw [if_pos q, if_pos q, if_pos hi]
    · rw [if_neg q, if_neg q, wrap_succ (by omega)]) (by
    unfold rf15_Lists.l1
    dsimp only
    rw [if_neg (by simp; omega), if_neg (by omega)])
  have hrun : loopO rf15_Lists.l1 (m, 120) = _ := hrun
  unfold rf15_Lists
  rw [hrun, Option.bind_some]
  by_cases hjl : j < m.length
  · have hjm : j < max 120 m.length := by omega
    have h1 := hs hjm
    have ho : overM m = true := by
      unfold overM
      rw [List.any_eq_true]
      refine ⟨m[j], ?_, by rw [getD_lt hjl] at h1; exact h1⟩
      have e : 120 + (j - 120) = j := by omega
      have h2 : (m.drop 120)[j - 120]'(by rw [List.length_drop]; omega) = m[j] := by
        simp only [List.getElem_drop, e]
      rw [← h2]
      exact List.getElem_mem _
    rw [if_pos hjl, ho]
    rfl
  · have ho : overM m = false := by
      unfold overM
      rw [List.any_eq_false]
      intro x hx
      obtain ⟨i, hi, rfl⟩ := List.getElem_of_mem hx
      rw [List.length_drop] at hi
      have := hb (120 + i) (by omega) (by omega)
      rw [getD_lt (by omega)] at this
      rw [List.getElem_drop, this]
      decide
    rw [if_neg hjl, ho]
    dsimp only
    have hsl : (spS m).length ≤ m.length := Sn.ofS_len m m.length
    have hpl := pages_len (spS m)
    rw [Sn.refOf_is m (by omega), Option.bind_some, show Sn.ofS m m.length = spS m from rfl]
    have hloop := loop_run (f := rf15_Lists.l2) (fun i => (((spS m).length : Int), (i : Int))) (n := (pagesS (spS m)).length) (r := ((pagesS (spS m)).length : Int)) (fun i hi => by
      unfold rf15_Lists.l2
      dsimp only
      rw [wrap64 (n := 20 * (i : Int)) (by omega) (by omega), wrap64 (n := 3 + 20 * (i : Int)) (by omega) (by omega), if_pos (by rw [decide_eq_true_eq]; omega), wrap_succ (by omega)]) (by
      unfold rf15_Lists.l2
      dsimp only
      rw [wrap64 (n := 20 * ((pagesS (spS m)).length : Int)) (by omega) (by omega), wrap64 (n := 3 + 20 * ((pagesS (spS m)).length : Int)) (by omega) (by omega), if_neg (by rw [decide_eq_true_eq]; omega)])
    have hloop : loopO rf15_Lists.l2 (((spS m).length : Int), 0) = _ := hloop
    rw [hloop, Option.bind_some]
    rfl

/-! ### The blocks are in use, and no two are one -/

def st8 (k : Card) (w : Loo) (n : Nat) (maps : List (List Int)) (m : List Int) (i : Int) : (Card × (Bool × Int) × Loo × (Int × Int) × List Blk × Loo) × List (List Int) × Int × List Int × Int := ((k, (false, 0), w, (0, -1), newX n, []), maps, (n : Int), m, i)

theorem back_l3 {n : Nat} (k : Card) (w : Loo) (maps : List (List Int)) (m : List Int) (i8 : Int) (bs : List Int) (hn : bs.Nodup) (hl : bs.length ≤ 1000) (q : Nat) (hq : q < bs.length) :
    loopO lw15_RunsBack.l3 ((k, (false, 0), w, (0, -1), newX n, []), maps, (n : Int), m, i8, bs, (q : Int), 0) = some (.inl ((k, (false, 0), w, (0, -1), newX n, []), maps, (n : Int), m, i8, bs, (q : Int))) := by
  have := loop_run (f := lw15_RunsBack.l3) (fun j => ((k, (false, 0), w, (0, -1), newX n, []), maps, (n : Int), m, i8, bs, (q : Int), (j : Int))) (n := q) (r := .inl ((k, (false, 0), w, (0, -1), newX n, []), maps, (n : Int), m, i8, bs, (q : Int))) (fun j hj => by
    have hne : ¬ (bs.getD j 0 == bs.getD q 0) = true := by
      rw [getD_lt (show j < bs.length by omega), getD_lt hq]
      intro h
      have h2 := (List.getElem_inj hn).1 (by simpa using h)
      omega
    obtain ⟨k1, k2, k3, k4, k5, k6, k7, k8, k9⟩ := k
    unfold lw15_RunsBack.l3
    dsimp only
    rw [if_pos (by simpa using hj), if_pos (by omega), if_pos (by omega), Int.toNat_natCast, Int.toNat_natCast, if_neg hne, wrap_succ (by omega)]) (by
    obtain ⟨k1, k2, k3, k4, k5, k6, k7, k8, k9⟩ := k
    unfold lw15_RunsBack.l3
    dsimp only
    rw [if_neg (by simp)])
  exact this

theorem back_l2 {n T : Nat} {k0 : Card} {w : Loo} {k : Card} {l : Pg} {bs m : List Int} (h : Kept n T k0 w k l bs m) (maps : List (List Int)) (i8 : Int) :
    loopO lw15_RunsBack.l2 ((k, (false, 0), w, (0, -1), newX n, []), maps, (n : Int), m, i8, bs, 0) = some (.inl ((k, (false, 0), w, (0, -1), newX n, []), maps, (n : Int), m, i8)) := by
  have hfew := h.filed.few
  have := loop_run (f := lw15_RunsBack.l2) (fun j => ((k, (false, 0), w, (0, -1), newX n, []), maps, (n : Int), m, i8, bs, (j : Int))) (n := bs.length) (r := .inl ((k, (false, 0), w, (0, -1), newX n, []), maps, (n : Int), m, i8)) (fun j hj => by
    have hu := h.filed.used (bs.getD j 0) (by rw [getD_lt hj]; exact List.getElem_mem hj)
    have h3 := back_l3 (n := n) k w maps m i8 bs h.filed.nodup (by omega) j hj
    obtain ⟨k1, k2, k3, k4, k5, k6, k7, k8, k9⟩ := k
    unfold lw15_RunsBack.l2
    dsimp only
    rw [if_pos (by simpa using hj), if_pos (by omega), Int.toNat_natCast, used_s h.disk 0 (-1) false 0 _ hu.1, hu.2, Option.bind_some]
    dsimp only
    rw [if_pos (by decide), if_neg (by decide), h3, Option.bind_some]
    dsimp only
    rw [wrap_succ (by omega)]) (by
    obtain ⟨k1, k2, k3, k4, k5, k6, k7, k8, k9⟩ := k
    unfold lw15_RunsBack.l2
    dsimp only
    rw [if_neg (by simp)])
  exact this

theorem back_step {n : Nat} (hr : 64 ≤ n ∧ n ≤ 400) (maps : List (List Int)) (hm : ∀ m ∈ maps, m.length ≤ 1048576) (i : Nat) (hi : i < maps.length) (hi2 : i < 12) {w : Loo} {k : Card} {l : Pg} {bs m : List Int} (h : Kept n (n - 51) fresh w k l bs m) (ho : overM m = false) (hml : m.length ≤ 200) (hl : l = spS m) :
    ∃ w' k' l' bs' m', lw15_RunsBack.l1 (st8 k w n maps m (i : Int)) = some (.inl (st8 k' w' n maps m' ((i + 1 : Nat) : Int))) ∧ Kept n (n - 51) fresh w' k' l' bs' m' ∧ overM m' = false ∧ m'.length ≤ 200 ∧ l' = spS m' := by
  have hfl := h.disk.full.len
  have hcl := chW_len n (newX n) w
  have ht := h.tot
  have hfew := h.filed.few
  have hcnt := h.cnt
  have hmi : (maps.getD i []).length ≤ 1048576 := by rw [getD_lt hi]; exact hm _ (List.getElem_mem hi)
  have hin := inside_s hr (maps.getD i []) hmi
  have hil := inside_len n (maps.getD i [])
  have hie := inside_entries hr (maps.getD i [])
  generalize insideS n (maps.getD i []) = M at hin hil hie
  have hch := changed_d hfl (by omega) h.disk.wf 0 (-1) false 0
  have hfree := kept_free h 0 (-1) false 0
  have hlm := lists_ref M (by omega)
  have hln := lists_ref m (by omega)
  rw [ho, if_neg (c := false = true) (by decide), ← hl, ← hcnt] at hln
  have hsm : rf01_Same ((chW n (newX n) w).map (·.1), (chW n (newX n) w).map (·.1)) = some true := Sn.sameInts _ (by rw [List.length_map]; omega)
  have hpm := pages_len (spS M)
  have hspm : (spS M).length ≤ M.length := Sn.ofS_len M M.length
  cases hoM : overM M with
  | true =>
    rw [hoM, if_pos rfl] at hlm
    have hsv := kept_over h 0 (-1) false 0 M (by omega) hie hoM
    refine ⟨w, k, l, bs, m, ?_, h, ho, hml, hl⟩
    obtain ⟨k1, k2, k3, k4, k5, k6, k7, k8, k9⟩ := k
    unfold lw15_RunsBack.l1 st8
    dsimp only
    rw [if_pos (by simpa using hi), if_pos (by rw [decide_eq_true_eq]; omega), if_pos (by omega), Int.toNat_natCast, hin, Option.bind_some, hch, Option.bind_some]
    dsimp only
    rw [hfree, Option.bind_some]
    dsimp only
    rw [hsv, Option.bind_some]
    dsimp only
    rw [hlm, Option.bind_some, hfree, Option.bind_some]
    dsimp only
    rw [if_pos (by decide), if_pos (by decide), hch, Option.bind_some]
    dsimp only
    rw [hsm, Option.bind_some, if_neg (by decide), wrap_succ (by omega)]
  | false =>
    rw [hoM, if_neg (c := false = true) (by decide)] at hlm
    by_cases hfit : (pagesS (spS M)).length ≤ n - 51
    · obtain ⟨w', k', bs', hsv, g⟩ := kept_save h 0 (-1) false 0 M (by omega) hie hoM hfit
      have hfree' := kept_free g 0 (-1) false 0
      have hload := kept_load g 0 (-1) false 0
      have hlists := kept_lists g 0 (-1) false 0
      have hl2 := back_l2 g maps (i : Int)
      have hgt := g.tot
      have hgc := g.cnt
      refine ⟨w', k', spS M, bs', M, ?_, g, hoM, hil, rfl⟩
      obtain ⟨k1, k2, k3, k4, k5, k6, k7, k8, k9⟩ := k
      obtain ⟨q1, q2, q3, q4, q5, q6, q7, q8, q9⟩ := k'
      unfold lw15_RunsBack.l1 st8
      dsimp only
      rw [if_pos (by simpa using hi), if_pos (by rw [decide_eq_true_eq]; omega), if_pos (by omega), Int.toNat_natCast, hin, Option.bind_some, hch, Option.bind_some]
      dsimp only
      rw [hfree, Option.bind_some]
      dsimp only
      rw [hsv, Option.bind_some]
      dsimp only
      rw [hlm, Option.bind_some, hfree', Option.bind_some]
      dsimp only
      rw [if_neg (by rw [decide_eq_true_eq]; omega), hln, Option.bind_some, wrap64 (n := ((n - 51 - bs.length : Nat) : Int) + (bs.length : Int)) (by omega) (by omega), if_neg (by rw [decide_eq_true_eq]; omega), if_pos (by decide), if_pos (by decide), wrap64 (by omega) (by omega), if_neg (by rw [bne_iff_ne]; omega), hload, Option.bind_some]
      dsimp only
      rw [hlists, Option.bind_some]
      dsimp only
      rw [if_pos (by decide), if_pos (by decide), wide_s M (by omega), Option.bind_some, Sn.sameInts _ (by rw [wide_len]; decide), Option.bind_some, if_pos (by decide), if_neg (by rw [bne_iff_ne]; omega), hl2, Option.bind_some]
      dsimp only
      rw [wrap_succ (by omega)]
    · have hsv := kept_full h 0 (-1) false 0 M (by omega) hie hoM (by omega)
      refine ⟨w, k, l, bs, m, ?_, h, ho, hml, hl⟩
      obtain ⟨k1, k2, k3, k4, k5, k6, k7, k8, k9⟩ := k
      unfold lw15_RunsBack.l1 st8
      dsimp only
      rw [if_pos (by simpa using hi), if_pos (by rw [decide_eq_true_eq]; omega), if_pos (by omega), Int.toNat_natCast, hin, Option.bind_some, hch, Option.bind_some]
      dsimp only
      rw [hfree, Option.bind_some]
      dsimp only
      rw [hsv, Option.bind_some]
      dsimp only
      rw [hlm, Option.bind_some, hfree, Option.bind_some]
      dsimp only
      rw [if_neg (by rw [decide_eq_true_eq]; omega), hln, Option.bind_some, wrap64 (n := ((n - 51 - bs.length : Nat) : Int) + (bs.length : Int)) (by omega) (by omega), if_pos (by rw [decide_eq_true_eq]; omega), if_pos (by decide), if_pos (by simp), hch, Option.bind_some]
      dsimp only
      rw [hsm, Option.bind_some, if_neg (by decide), wrap_succ (by omega)]

theorem lw15_RunsBack_row (x0 : List (List Int)) (x1 : Int) (w0' : wfD (.sl (.sl I)) x0) (w1 : wfD I x1) (hb : bulk (.sl (.sl I)) x0 + bulk I x1 ≤ 1048576) : lw15_RunsBack (x0, x1) = some true := by
  obtain ⟨M, hM, hw⟩ := tmod_nat x1 337 (by decide) (by decide)
  change IntKind.i64.wrap (Int.tmod (IntKind.u64.wrap x1) 337) = (M : Int) at hw
  have hN : IntKind.i64.wrap (64 + (M : Int)) = ((64 + M : Nat) : Int) := by rw [wrap64 (by omega) (by omega)]; omega
  have hr : 64 ≤ 64 + M ∧ 64 + M ≤ 400 := by omega
  generalize 64 + M = n at hN hr
  have hx := bulk_lists x0 (by omega)
  have hx2 : ∀ m ∈ x0, m.length ≤ 1048576 := fun m hm => mem_lists (by omega) hm
  obtain ⟨s, ⟨w, k, l, bs, m, rfl, hK, _, _, _⟩, hloop⟩ := loop_inv (f := lw15_RunsBack.l1) (fun i s => ∃ w k l bs m, s = st8 k w n x0 m (i : Int) ∧ Kept n (n - 51) fresh w k l bs m ∧ overM m = false ∧ m.length ≤ 200 ∧ l = spS m) (n := min 12 x0.length) (by
    rintro i s hi ⟨w, k, l, bs, m, rfl, h1, h2, h3, h4⟩
    obtain ⟨w', k', l', bs', m', e, g1, g2, g3, g4⟩ := back_step hr x0 hx2 i (by omega) (by omega) h1 h2 h3 h4
    exact ⟨_, e, w', k', l', bs', m', rfl, g1, g2, g3, g4⟩) (st8 fresh (w0 n) n x0 [] 0) ⟨_, _, _, _, _, rfl, kept_new hr, rfl, by decide, rfl⟩
  have hend : lw15_RunsBack.l1 (st8 k w n x0 m ((min 12 x0.length : Nat) : Int)) = some (.inr (.inl k)) := by
    obtain ⟨k1, k2, k3, k4, k5, k6, k7, k8, k9⟩ := k
    unfold lw15_RunsBack.l1 st8
    dsimp only
    by_cases h12 : x0.length ≤ 12
    · rw [if_neg (by rw [decide_eq_true_eq]; omega)]
    · rw [if_pos (by rw [decide_eq_true_eq]; omega), if_neg (by rw [decide_eq_true_eq]; omega)]
  have hl2 : loopO lw15_RunsBack.l1 ((fresh, (false, 0), w0 n, (0, -1), newX n, []), x0, (n : Int), [], 0) = some (.inl k) := hloop.trans (loopO_inr hend)
  have hright := (may2_runs hK.filed.card).2.1
  have hrc := refRight_c k hK.filed.len.c
  rw [hright] at hrc
  unfold lw15_RunsBack
  dsimp only
  rw [lives_is, Option.bind_some, if_neg (by decide), hw, hN, begin_is hr, Option.bind_some]
  dsimp only
  rw [fresh_is, Option.bind_some, hl2, Option.bind_some]
  obtain ⟨k1, k2, k3, k4, k5, k6, k7, k8, k9⟩ := k
  dsimp only
  rw [hrc, Option.bind_some]

end Go.Proofs.YtlbammfnkphajaaGreatDoor.Abs
