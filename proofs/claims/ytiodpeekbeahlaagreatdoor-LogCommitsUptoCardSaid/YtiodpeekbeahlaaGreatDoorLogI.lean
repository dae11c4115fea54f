/- The log: which slabs may be opened; which commits end well. -/
import Derived.Test.YtiodpeekbeahlaaGreatDoorLogH
namespace Go.Proofs.YtiodpeekbeahlaaGreatDoor.Abs
open Go
set_option linter.unusedVariables false
attribute [-simp] List.getD_eq_getElem?_getD

theorem tmod_nat (x : Int) (k : Nat) (h0 : 0 < k) (h1 : k ≤ 1000) : ∃ M : Nat, M < k ∧ IntKind.i64.wrap (Int.tmod (IntKind.u64.wrap x) (k : Int)) = (M : Int) := by
  have hu : 0 ≤ IntKind.u64.wrap x := by
    simp only [IntKind.wrap, IntKind.signed, IntKind.bits]
    simp
    omega
  have a := Int.tmod_nonneg (k : Int) hu
  have b := Int.tmod_lt_of_pos (IntKind.u64.wrap x) (show (0 : Int) < (k : Int) by omega)
  exact ⟨(Int.tmod (IntKind.u64.wrap x) (k : Int)).toNat, by omega, by rw [wrap64 (by omega) (by omega)]; omega⟩

/-! ### Opening -/

theorem LogOpens_load (N : Nat) (head : Blk) (blocks : List Blk) (hN : N ≤ 1000) : loopO wainwrightlaw11_LogOpens.l1 (List.replicate N ([] : List UInt8), (N : Int), head, blocks, 0) = some ((List.range N).map fun i => wholeS (blocks.getD i []), (N : Int), head) := by
  have hset : ∀ i, i < N → ∀ v : Blk, (((List.range i).map fun i => wholeS (blocks.getD i [])) ++ List.replicate (N - i) ([] : Blk)).set i v = ((List.range i).map fun i => wholeS (blocks.getD i [])) ++ v :: List.replicate (N - (i + 1)) ([] : Blk) := fun i hi v => by
    have e : N - i = (N - (i + 1)) + 1 := by omega
    rw [List.set_append_right _ _ (by simp), e, List.replicate_succ, List.length_map, List.length_range, Nat.sub_self, List.set_cons_zero]
  have := loop_run (f := wainwrightlaw11_LogOpens.l1) (fun i => (((List.range i).map fun i => wholeS (blocks.getD i [])) ++ List.replicate (N - i) ([] : Blk), (N : Int), head, blocks, (i : Int))) (n := N) (r := ((List.range N).map fun i => wholeS (blocks.getD i []), (N : Int), head)) (fun i hi => by
    have hl : ((((List.range i).map fun i => wholeS (blocks.getD i [])) ++ List.replicate (N - i) ([] : Blk)).length) = N := by simp; omega
    unfold wainwrightlaw11_LogOpens.l1
    simp only
    rw [if_pos (by simpa using hi), refWhole_is, Option.bind_some, if_pos (by rw [hl]; omega)]
    rw [List.range_succ, List.map_append, List.append_assoc]
    by_cases hb : i < blocks.length
    · rw [if_pos (by simpa using hb), if_pos (by omega), refWhole_is, Option.bind_some, if_pos (by rw [List.length_set, hl]; omega), Int.toNat_natCast, List.set_set, hset i hi, wrap_succ (by omega)]
      rfl
    · rw [if_neg (by simpa using hb), Int.toNat_natCast, hset i hi, wrap_succ (by omega)]
      have : blocks.getD i [] = [] := by
        simp only [List.getD]
        rw [List.getElem?_eq_none (by omega)]
        rfl
      simp only [List.map_cons, List.map_nil]
      rw [this]
      rfl) (by
    unfold wainwrightlaw11_LogOpens.l1
    simp only
    rw [if_neg (by simp), Nat.sub_self, List.replicate_zero, List.append_nil])
  rw [← this]
  rfl

theorem opens_core {N : Nat} {im : List Blk} (hN : N < 150) (hl : im.length = N) (hb : ∀ b ∈ im, b.length = 128) :
    ((slab_Load im).bind fun ((r50, r50_2), r50_3, r50_4) =>
              (log_Open ((r50, r50_2), r50_3, r50_4)).bind fun d => match d with
              | .inl (((r53, r53_2), r53_3, r53_4), r53_5) =>
                (wainwrightref11_Recovered im).bind fun (r58, r58_2) =>
                  if decide ((N : Int) < 64) = true then
                    if (r53_5 == 1) = true then
                      some true
                    else
                      some false
                  else
                    if (!r58_2) = true then
                      if (r53_5 == 15) = true then
                        (slab_Slab_Calls (r53_3, r53_4, r53, r53_2)).bind fun r79 =>
                          some (((r79 == 0)))
                      else
                        some false
                    else
                      if (r53_5 == 0) = true then
                        (slab_Image ((r53, r53_2), r53_3, r53_4)).bind fun ((_, _, _), r86) =>
                          (wainwrightref11_Same (r86, r58)).bind fun r88 =>
                            if r88 = true then
                              (slab_Slab_Loose ((r53, r53_2), r53_3, r53_4)).bind fun ((_, _, _), r92) =>
                                some ((((r92.length : Int) == 0)))
                            else
                              some false
                      else
                        some false
              | .inr ((((r53b, r53_2b), r53_3b, r53_4b, r53_5b, r53_6b), r53_7b)) =>
                (wainwrightref11_Recovered im).bind fun (r58a, r58a_2) =>
                  if decide ((N : Int) < 64) = true then
                    if (r53_7b == 1) = true then
                      some false
                    else
                      some false
                  else
                    if (!r58a_2) = true then
                      if (r53_7b == 15) = true then
                        some false
                      else
                        some false
                    else
                      if (r53_7b == 0) = true then
                        (slab_Image ((r53b, r53_2b), r53_3b, r53_4b)).bind fun ((_, _, _), r86a) =>
                          (wainwrightref11_Same (r86a, r58a)).bind fun r88a =>
                            if r88a = true then
                              (slab_Slab_Loose ((r53b, r53_2b), r53_3b, r53_4b)).bind fun ((_, _, _), r92a) =>
                                some ((((r92a.length : Int) == 0)))
                            else
                              some false
                      else
                        some false) = some true := by
  have hok := okay_load im (by omega)
  rw [firm_id im (by omega) hb, hl] at hok
  have hblk : (im.getD 1 []).length = 128 ∨ N < 64 := by
    by_cases h : N < 64
    · exact .inr h
    · rw [getD_lt (by omega)]
      exact .inl (hb _ (List.getElem_mem _))
  obtain ⟨o1, o2⟩ := log_open hok (by omega) hblk
  rw [load_is, firm_id im (by omega) hb, Option.bind_some]
  simp only
  rw [o1, Option.bind_some, recovered_is im (by omega) hb]
  by_cases h64 : N < 64
  · rw [if_pos h64, if_neg (by omega)]
    simp only
    rw [Option.bind_some]
    simp only
    rw [if_pos (by rw [decide_eq_true_eq]; omega)]
    rfl
  · rw [if_neg h64]
    have hd : ¬ decide ((N : Int) < 64) = true := by rw [decide_eq_true_eq]; omega
    cases hr : (readS im).2 with
    | false =>
      rw [if_pos rfl, if_neg (fun q => by cases q.2)]
      simp only
      rw [Option.bind_some]
      simp only
      rw [if_neg hd, if_pos (by rfl), if_pos (by rfl)]
      rfl
    | true =>
      rw [if_neg (show ¬ (true = false) by decide), if_pos (show 64 ≤ im.length ∧ true = true from ⟨by omega, rfl⟩)]
      by_cases he : (readS im).1 = []
      · rw [if_pos he, he]
        simp only
        rw [Option.bind_some]
        simp only
        rw [if_neg hd, if_neg (by decide), if_pos (by rfl), hok.image, Option.bind_some]
        simp only
        rw [image_nil, show putS im [] = im from rfl, refSame_is (sameS.refl im) (by omega), Option.bind_some, if_pos rfl, hok.loose_is, Option.bind_some]
        rfl
      · have hok2 := o2 (by omega) hr
        rw [if_neg he]
        simp only
        rw [Option.bind_some]
        simp only
        rw [if_neg hd, if_neg (by decide), if_pos (by rfl), hok2.image, Option.bind_some]
        simp only
        rw [image_nil, refSame_is (sameS.own (sameS.refl _) 1 _ rfl) (by rw [List.length_set, putS_len]; omega), Option.bind_some, if_pos rfl, hok2.loose_is, Option.bind_some]
        rfl

theorem wainwrightlaw11_LogOpens_row (x0 : Int) (x1 : Blk) (x2 : List Blk) (w0 : wfD I x0) (w1 : wfD .str x1) (w2 : wfD (.sl .str) x2)
    (hb : bulk I x0 + bulk .str x1 + bulk (.sl .str) x2 ≤ 1048576) : wainwrightlaw11_LogOpens (x0, x1, x2) = some true := by
  obtain ⟨N, hN, hw⟩ := tmod_nat x0 150 (by decide) (by decide)
  unfold wainwrightlaw11_LogOpens
  simp only
  rw [lives_is, Option.bind_some, if_neg (by simp)]
  change IntKind.i64.wrap (Int.tmod (IntKind.u64.wrap x0) 150) = (N : Int) at hw
  rw [hw, if_pos (by omega), Int.toNat_natCast, LogOpens_load N x1 x2 (by omega), Option.bind_some]
  simp only
  have hl : ((List.range N).map fun i => wholeS (x2.getD i [])).length = N := by simp
  have hbl : ∀ b ∈ ((List.range N).map fun i => wholeS (x2.getD i [])), b.length = 128 := fun b hb => by
    obtain ⟨i, _, rfl⟩ := List.mem_map.1 hb
    exact wholeS_len _
  generalize ((List.range N).map fun i => wholeS (x2.getD i [])) = im at hl hbl
  by_cases h1 : N > 1
  · rw [if_pos (by rw [decide_eq_true_eq]; omega), refWhole_is, Option.bind_some, if_pos (by omega), Option.bind_some]
    exact opens_core hN (by simpa using hl) (fun b hb => by
      rcases List.mem_or_eq_of_mem_set hb with q | q
      · exact hbl b q
      · rw [q]; exact wholeS_len _)
  · rw [if_neg (by rw [decide_eq_true_eq]; omega), Option.bind_some]
    exact opens_core hN hl hbl

/-! ### Commits -/

theorem loop_inv {σ τ : Type} {f : σ → Option (σ ⊕ τ)} (P : Nat → σ → Prop) {n : Nat} (hs : ∀ i s, i < n → P i s → ∃ s', f s = some (.inl s') ∧ P (i + 1) s') (s0 : σ) (h0 : P 0 s0) : ∃ s, P n s ∧ loopO f s0 = loopO f s := by
  have : ∀ k, k ≤ n → ∃ s, P k s ∧ loopO f s0 = loopO f s := by
    intro k
    induction k with
    | zero => intro _; exact ⟨s0, h0, rfl⟩
    | succ k ih =>
      intro hk
      obtain ⟨s, p, e⟩ := ih (by omega)
      obtain ⟨s', e', p'⟩ := hs k s (by omega) p
      exact ⟨s', p', by rw [e, loopO_inl e']⟩
  exact this n (Nat.le_refl _)

theorem sum_mem {α : Type} (f : α → Nat) {a : α} : ∀ {l : List α}, a ∈ l → f a ≤ (l.map f).sum
  | b :: l, h => by
    rw [List.map_cons, List.sum_cons]
    rcases List.mem_cons.1 h with rfl | h
    · omega
    · have := sum_mem f h
      omega

abbrev RS := ((Int × Int) × (Bool × Int) × List Blk × Loo) × List BatchD × Int × List Blk × Int × Int

theorem round_tail {N m : Nat} {c k : Int} {xs image : List Blk} (h : Okay N m ((c, -1), xs, [])) (hs : sameS xs image) (L : List BatchD) (i : Nat) (hi : i < 1000) :
    ((slab_Slab_Calls (xs, ([] : Loo), c, -1)).bind fun r75 =>
                    if (r75 != c) = false then
                      (slab_Slab_Loose ((c, -1), xs, [])).bind fun ((_, _, _), r80) =>
                        if ((r80.length : Int) != 0) = false then
                          (slab_Image ((c, -1), xs, [])).bind fun ((_, _, _), r86) =>
                            (wainwrightref11_Same (r86, image)).bind fun r88 =>
                              if (!r88) = false then
                                (log_Log_Commits ((xs, [], c, -1), false, k)).bind fun r93 =>
                                  if (r93 != k) = true then
                                    some (.inr (.inr false))
                                  else
                                    some (.inl ((((c, -1), (false, k), xs, []), L, (N : Int), image, k, IntKind.i64.wrap ((i : Int) + 1))))
                              else
                                some (.inr (.inr false))
                        else
                          some (.inr (.inr false))
                    else
                      some (.inr (.inr false)) : Option (RS ⊕ ((((Int × Int) × List Blk × Loo) × Int × List Blk) ⊕ Bool))) = some (.inl ((((c, -1), (false, k), xs, []), L, (N : Int), image, k, ((i + 1 : Nat) : Int)))) := by
  have hf := h.firm
  have hr := h.room
  simp only at hf
  unfold slab_Slab_Calls
  rw [Option.bind_some, if_pos (by simp), h.loose_is, Option.bind_some]
  simp only
  rw [if_pos (by rfl), h.image, Option.bind_some]
  simp only
  rw [image_nil, refSame_is hs (by omega), Option.bind_some, if_pos (by rfl)]
  unfold log_Log_Commits
  simp only
  rw [Option.bind_some, if_neg (by simp), wrap_succ (by omega)]

theorem wainwrightlaw11_LogCommits_row (x0 : List BatchD) (x1 : Int) (w0 : wfD (.sl (.st (.pair (.sl I) (.sl (.int .u8))))) x0) (w1 : wfD I x1)
    (hb : bulk (.sl (.st (.pair (.sl I) (.sl (.int .u8))))) x0 + bulk I x1 ≤ 1048576) : wainwrightlaw11_LogCommits (x0, x1) = some true := by
  obtain ⟨M, hM, hw⟩ := tmod_nat x1 100 (by decide) (by decide)
  change IntKind.i64.wrap (Int.tmod (IntKind.u64.wrap x1) 100) = (M : Int) at hw
  have hlen : ∀ b ∈ x0, b.1.length ≤ 2000000 := fun b hm => by
    have h1 := bulk_ints b.1
    have h2 : bulk (.st (.pair (.sl I) (.sl (.int .u8)))) b = bulk (.sl I) b.1 + bulk (.sl (.int .u8)) b.2 + 1 := rfl
    have h3 : bulk (.sl (.st (.pair (.sl I) (.sl (.int .u8))))) x0 = (x0.map (bulk (.st (.pair (.sl I) (.sl (.int .u8)))))).sum + 1 := rfl
    have h4 := sum_mem (bulk (.st (.pair (.sl I) (.sl (.int .u8))))) hm
    change b.1.length < bulk (.sl I) b.1 at h1
    omega
  have hN : IntKind.i64.wrap (64 + (M : Int)) = ((64 + M : Nat) : Int) := by rw [wrap64 (by omega) (by omega)]; omega
  have hearly : wainwrightlaw11_early x0 = some (x0.take 25) := by
    have hmin : (if 25 < (x0.length : Int) then 25 else (x0.length : Int)) = ((min 25 x0.length : Nat) : Int) := by
      by_cases h : 25 < (x0.length : Int)
      · rw [if_pos h]; omega
      · rw [if_neg h]; omega
    unfold wainwrightlaw11_early
    rw [hmin, if_pos (by omega), Int.toNat_natCast]
    congr 1
    rw [← List.take_take, List.take_length]
  unfold wainwrightlaw11_LogCommits
  simp only
  rw [lives_is, Option.bind_some, if_neg (by simp), hearly, Option.bind_some, hw, hN, new_is, Option.bind_some]
  simp only
  generalize hNe : 64 + M = N at *
  rw [Int.toNat_natCast, show min 1000 N = N by omega]
  have hlenL : ∀ b ∈ x0.take 25, b.1.length ≤ 2000000 := fun b hb => hlen b (List.mem_of_mem_take hb)
  have h25 : (x0.take 25).length ≤ 25 := by simp; omega
  generalize x0.take 25 = L at hlenL h25
  have hz : (List.replicate N (wholeS [])).getD 1 [] = zeroS := by rw [repl_getD _ _ _ _ (by omega)]; rfl
  have hxl : (List.replicate N (wholeS [])).length = N := by simp
  generalize List.replicate N (wholeS []) = xs0 at hz hxl
  have hok : Okay N 0 ((0, -1), xs0, []) := ⟨hxl, by omega, by simp, (fun e he => by cases he), by simp, by simp⟩
  obtain ⟨o1, o2⟩ := log_open hok (by omega) (.inl (by rw [hz]; exact zeroS_len))
  rw [o1, if_neg (by omega), readS_zero hz, if_neg (by simp), if_pos rfl, Option.bind_some]
  simp only
  rw [if_neg (by decide), hok.image, Option.bind_some]
  simp only
  rw [image_nil]
  obtain ⟨s, ⟨c, k, xs, image, hs, h1, h2, h3, h4⟩, hloop⟩ := loop_inv (f := wainwrightlaw11_LogCommits.l1) (fun i s => ∃ (c k : Int) (xs image : List Blk), s = (((c, -1), (false, k), xs, []), L, (N : Int), image, k, (i : Int)) ∧ Okay N (86 * i) ((c, -1), xs, []) ∧ sameS xs image ∧ xs.getD 1 [] = zeroS ∧ (0 ≤ k ∧ k ≤ (i : Int))) (n := L.length) (by
    rintro i s hi ⟨c, k, xs, image, rfl, h1, h2, h3, h4⟩
    have hbt := hlenL (L.getD i ([], [])) (by rw [getD_lt hi]; exact List.getElem_mem hi)
    have hf := h1.firm
    simp only at hf
    obtain ⟨c1, c2⟩ := log_commit (k := k) h1 (by omega) (by omega) (by omega) (ch := chS (L.getD i ([], []))) (by rw [chS_len]; exact hbt)
    have hr := refRight_is N (chS (L.getD i ([], []))) (by rw [chS_len]; exact hbt)
    have hcl : (chS (L.getD i ([], []))).length ≤ 2000000 := by rw [chS_len]; exact hbt
    have hlo := h1.calls
    simp only at hlo
    by_cases hc : mayS N (chS (L.getD i ([], []))) = 0 ∧ chS (L.getD i ([], [])) ≠ []
    · rw [if_pos hc] at c1
      have ok2 := c2 hc
      have h40 : (chS (L.getD i ([], []))).length ≤ 40 := by
        have := hc.1
        unfold mayS at this
        by_cases q : (chS (L.getD i ([], []))).length > 40
        · rw [if_pos q] at this; cases this
        · omega
      have hright : rightS N (chS (L.getD i ([], []))) = true := by
        have := hc.1
        unfold mayS at this
        rw [if_neg (by omega)] at this
        cases q : rightS N (chS (L.getD i ([], []))) with
        | true => rfl
        | false => rw [q] at this; cases this
      have hpos : 0 < (chS (L.getD i ([], []))).length := List.length_pos_iff.2 hc.2
      have hcm := comm_same h2 (chS (L.getD i ([], []))) h40
      refine ⟨_, ?_, c + 2 * (chS (L.getD i ([], []))).length + 6, k + 1, commS xs (chS (L.getD i ([], []))), putS image (chS (L.getD i ([], []))), rfl, ok2, hcm, comm_head _ _ (by omega), by omega⟩
      unfold wainwrightlaw11_LogCommits.l1
      simp only
      rw [if_pos (by simpa using hi), if_pos (by omega), getD_nat, changes_is _ hbt, Option.bind_some]
      unfold slab_Slab_Calls
      simp only
      rw [Option.bind_some, c1, Option.bind_some]
      simp only
      rw [hr, Option.bind_some, hc.1, if_neg (by decide), if_pos (by rfl), refWith_is _ _ (fun x hx => by
        have := right_fits hright x hx
        rw [← h2.1, hf]
        exact ⟨this.1, this.2.1⟩) (by rw [← h2.1]; omega) hcl, Option.bind_some]
      unfold wainwrightref11_Calls
      rw [if_neg (by simp only [beq_iff_eq]; omega), Option.bind_some, if_pos (by rw [decide_eq_true_eq]; omega), Option.bind_some]
      simp only
      rw [wrap64 (n := k + 1) (by omega) (by omega), wrap64 (n := 2 * ((chS (L.getD i ([], []))).length : Int)) (by omega) (by omega), wrap64 (n := 2 * ((chS (L.getD i ([], []))).length : Int) + 6) (by omega) (by omega), wrap64 (by omega) (by omega), ← Int.add_assoc]
      exact round_tail ok2 hcm L i (by omega)
    · rw [if_neg hc] at c1
      refine ⟨_, ?_, c, k, xs, image, rfl, h1.mono (by omega) (by omega), h2, h3, by omega⟩
      unfold wainwrightlaw11_LogCommits.l1
      simp only
      rw [if_pos (by simpa using hi), if_pos (by omega), getD_nat, changes_is _ hbt, Option.bind_some]
      unfold slab_Slab_Calls
      simp only
      rw [Option.bind_some, c1, Option.bind_some]
      simp only
      rw [hr, Option.bind_some, if_neg (by simp)]
      by_cases h0 : mayS N (chS (L.getD i ([], []))) = 0
      · have hnil : chS (L.getD i ([], [])) = [] := Decidable.byContradiction fun q => hc ⟨h0, q⟩
        rw [h0, hnil, if_pos (by rfl), refWith_is _ _ (fun x hx => by cases hx) (by rw [← h2.1]; omega) (by simp), Option.bind_some]
        unfold wainwrightref11_Calls
        rw [if_pos (by rfl), Option.bind_some, if_neg (by decide), Option.bind_some]
        simp only
        rw [Int.add_zero, wrap64 (n := c) (by omega) (by omega)]
        exact round_tail h1 h2 L i (by omega)
      · rw [if_neg (by simpa using h0), Option.bind_some]
        simp only
        exact round_tail h1 h2 L i (by omega)) (((0, -1), (false, 0), xs0, []), L, (N : Int), xs0, 0, 0) ⟨0, 0, xs0, xs0, rfl, hok, sameS.refl _, hz, by omega⟩
  rw [hloop, hs, loopO_inr (r := .inl (((c, -1), xs, []), (N : Int), image)) (by
    unfold wainwrightlaw11_LogCommits.l1
    simp only
    rw [if_neg (by simp)]), Option.bind_some]
  simp only
  have hf := h1.firm
  simp only at hf
  obtain ⟨q1, q2⟩ := log_open h1 (by omega) (.inl (by rw [h3]; exact zeroS_len))
  rw [q1, if_neg (by omega), readS_zero h3, if_neg (by simp), if_pos rfl, Option.bind_some]
  simp only
  rw [if_pos (by rfl)]
  unfold log_Log_Size_1 slab_Slab_Size
  simp only
  rw [Option.bind_some, Option.bind_some, hf, if_pos (by simp), h1.image, Option.bind_some]
  simp only
  rw [image_nil, refSame_is h2 (by omega)]
  rfl
end Go.Proofs.YtiodpeekbeahlaaGreatDoor.Abs
