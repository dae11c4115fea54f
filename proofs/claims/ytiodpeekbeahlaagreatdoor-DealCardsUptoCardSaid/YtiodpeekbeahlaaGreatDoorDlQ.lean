/- Deals on a new disk; a deal lives; what a deal answers, in whatever row. -/
import Derived.Test.YtiodpeekbeahlaaGreatDoorDlO
namespace Go.Proofs.YtiodpeekbeahlaaGreatDoor.Abs
open Go
set_option linter.unusedVariables false
attribute [-simp] List.getD_eq_getElem?_getD

theorem sread (xs : List Blk) (c u i : Int) (h : 0 ≤ i ∧ i < (xs.length : Int)) : slab_Slab_Read ((xs, [], c, u), i) = some (xs.getD i.toNat []) := by
  unfold slab_Slab_Read slab_Slab_there
  dsimp only
  rw [if_pos (show decide (i ≥ 0) = true by rw [decide_eq_true_eq]; exact h.1), Option.bind_some, if_neg (by simp; omega), if_neg (by rw [show mget (K := I) (V := .str) ([] : Loo) i = none from rfl]; decide), if_pos h]

/-- The blocks of a new disk. -/
def newX (n : Nat) : List Blk := List.replicate n Lg.zeroS
theorem zero_len : Lg.zeroS.length = 128 := by unfold Lg.zeroS; simp
theorem newX_full (n : Nat) : Full n (newX n) := ⟨by simp [newX], fun i hi => by
  unfold newX
  rw [getD_lt (by simpa using hi), List.getElem_replicate]
  exact zero_len⟩

set_option maxRecDepth 10000 in
theorem log_open0 {n : Nat} (hr : 64 ≤ n ∧ n ≤ 400) : log_Open ((0, -1), newX n, []) = some (.inr (((0, -1), newX n, [], false, 0), 0)) := by
  have hl := (newX_full n).len
  have hz : (newX n).getD 1 [] = Lg.zeroS := by
    unfold newX
    rw [getD_lt (by simp; omega), List.getElem_replicate]
  have hread : log_Log_read_2 ((false, 0), (0, -1), newX n, []) = some (((false, 0), (0, -1), newX n, []), [], true) := by
    obtain ⟨r, hr1, hr2⟩ := Lg.trim_is (Lg.zeroS.drop 1) (by simp [zero_len])
    have hr3 : r = [] := by
      rw [show Lg.zeros (Lg.zeroS.drop 1) = true by kernel_rfl] at hr2
      simpa using hr2
    subst hr3
    unfold log_Log_read_2
    dsimp only
    rw [sread (newX n) 0 (-1) 1 (by omega), Option.bind_some, show (1 : Int).toNat = 1 from rfl, hz]
    rw [if_pos (by decide), show IntKind.i64.wrap (((Lg.zeroS.getD 0 0).toNat : Int)) = 0 from rfl, if_neg (by decide), slices_Repeat_int_int.le ([2], 0) [] (by kernel_rfl), Option.bind_some, if_pos (by decide), mould_Read_is _ _ (by decide), show rd [] (Lg.zeroS.drop 1) = ([], 0) by kernel_rfl, Option.bind_some]
    dsimp only
    rw [if_pos (by rfl), mould_Size_is _ (by decide), show szI [] = 0 from rfl, Option.bind_some, show IntKind.i64.wrap (1 + 0) = 1 from rfl, if_pos (by decide), show (1 : Int).toNat = 1 from rfl, hr1, Option.bind_some, if_neg (by decide)]
    rw [loopO_inr (r := ((false, 0), (0, -1), newX n, [], [])) (by
      unfold log_Log_read_2.l1
      dsimp only
      rw [if_neg (by decide)]), Option.bind_some]
    dsimp only
    unfold log_Log_right
    dsimp only
    rw [loopO_inr (r := .inl ()) (by
      unfold log_Log_right.l1
      dsimp only
      rw [if_neg (by decide)]), Option.bind_some]
    rfl
  unfold log_Open slab_Slab_Size
  dsimp only
  rw [Option.bind_some, if_neg (by rw [decide_eq_true_eq]; omega), hread, Option.bind_some]
  dsimp only
  rw [if_neg (by decide), if_neg (by simp)]

theorem new0 (n : Nat) (h : n ≤ 400) : slab_New (n : Int) = some ((0, -1), newX n, []) := by
  rw [new_is, Int.toNat_natCast, show min 1000 n = n by omega]
  rfl

theorem begin_is {n : Nat} (hr : 64 ≤ n ∧ n ≤ 400) : lw12_begin (n : Int) = some (.inr ((0, -1), newX n, [], (false, 0), [])) := by
  unfold lw12_begin
  rw [new0 n hr.2, Option.bind_some]
  dsimp only
  rw [log_open0 hr, Option.bind_some]
  rfl

theorem newX_ok (n : Nat) (hr : 64 ≤ n ∧ n ≤ 400) : Ok12 n 0 0 0 (newX n) [] :=
  ⟨newX_full n, WfW.nil n, ⟨(newX_full n).len, by omega, by simp, (fun e he => by cases he), by simp, by simp⟩, by simp⟩

theorem refBegin_is {n : Nat} (xs : List Blk) (hl : xs.length = n) (hn : n ≤ 1000) : rf12_Begin xs = some (xs, xs) := by
  unfold rf12_Begin
  rw [if_pos (room (by decide) (by simp; omega)), if_pos (room (by decide) (by simp; omega))]
  rfl

theorem chW_nil (n : Nat) (xs : List Blk) : chW n xs [] = [] := by
  unfold chW
  rw [List.filter_eq_nil_iff.2 fun i _ => by
    unfold isCh
    rw [getW_nil, Int.toNat_natCast]
    simp]
  rfl

theorem lives_is : lw12_lives () = some true := by
  have hr : 64 ≤ 64 ∧ 64 ≤ 400 := by decide
  have hok := newX_ok 64 hr
  have hl := hok.full.len
  have hw1 : WfW 64 (mp [] 60 (wholeS [97])) := (WfW.nil 64).put (by decide) (wholeS_len _)
  have hch : chW 64 (newX 64) (mp [] 60 (wholeS [97])) = [(60, wholeS [97])] := by kernel_rfl
  have hget : getW (newX 64) (mp [] 60 (wholeS [97])) 60 = wholeS [97] := by kernel_rfl
  obtain ⟨c1, c2⟩ := commit_d (k := 0) hok.full hok.okay hr.1 (by decide) (by decide) hw1
  rw [hch, if_neg (by decide), if_neg (by simp)] at c1
  rw [hch] at c2
  have hok2 := c2 (by decide) (by simp)
  have hf2 : (Lg.commS (newX 64) [(60, wholeS [97])]).length = 64 := by rw [Lg.comm_len]; exact hl
  have h60 : (Lg.commS (newX 64) [(60, wholeS [97])]).getD 60 [] = wholeS [97] := by kernel_rfl
  unfold lw12_lives
  rw [show (64 : Int) = ((64 : Nat) : Int) from rfl, begin_is hr, Option.bind_some]
  dsimp only
  have hwr : deal_Deal_Write (((false, 0), [], (0, -1), newX 64, []), 60, [97]) = some (((false, 0), mp [] 60 (wholeS [97]), (0, -1), newX 64, []), 0) := by
    rw [write_d hl, if_pos ⟨by decide, by decide⟩, if_pos ⟨by decide, by decide⟩]
  rw [hwr, Option.bind_some]
  dsimp only
  rw [if_neg (by decide), read_d hl, Option.bind_some, if_pos (by decide), hget]
  rw [if_pos (by decide), refWhole_is, Option.bind_some, if_pos (by simp), changed_d hl (by decide) hw1, hch, Option.bind_some]
  dsimp only
  rw [if_pos (by decide), c1, Option.bind_some]
  dsimp only
  rw [if_pos (by decide), sread _ _ _ _ (by omega), Option.bind_some, show ((60 : Int)).toNat = 60 from rfl, h60, if_pos (by simp), changed_d hf2 (by decide) (WfW.nil 64), chW_nil]
  rfl

theorem early_is (l : List Op12) : lw12_early l = some (l.take 150) := by
  have hmin : (if 150 < (l.length : Int) then 150 else (l.length : Int)) = ((min 150 l.length : Nat) : Int) := by
    by_cases h : 150 < (l.length : Int)
    · rw [if_pos h]; omega
    · rw [if_neg h]; omega
  unfold lw12_early
  rw [hmin, if_pos (by omega), Int.toNat_natCast]
  congr 1
  rw [← List.take_take, List.take_length]

abbrev OpT : Ty := .st (.pair I (.pair I (.pair .str (.pair (.st (.pair I (.pair I I))) yC))))

theorem sum_mem {α : Type} (f : α → Nat) {a : α} : ∀ {l : List α}, a ∈ l → f a ≤ (l.map f).sum
  | b :: l, h => by
    rw [List.map_cons, List.sum_cons]
    rcases List.mem_cons.1 h with rfl | h
    · omega
    · have := sum_mem f h
      omega

theorem bulk_card (c : Card) (h : bulk yC c ≤ 1048576) : lenD c := by
  have h1 := bulk_ints c.2.2.2.2.1
  have h2 := bulk_structs (.pair I (.pair I I)) c.2.2.2.2.2.2.2.1
  have e : bulk yC c = bulk I c.1 + (bulk I c.2.1 + (bulk I c.2.2.1 + (bulk I c.2.2.2.1 + (bulk (.sl I) c.2.2.2.2.1 + (bulk I c.2.2.2.2.2.1 + (bulk I c.2.2.2.2.2.2.1 + (bulk (.sl (.st (.pair I (.pair I I)))) c.2.2.2.2.2.2.2.1 + bulk I c.2.2.2.2.2.2.2.2))))))) + 1 := rfl
  change c.2.2.2.2.1.length < bulk (.sl I) c.2.2.2.2.1 at h1
  change c.2.2.2.2.2.2.2.1.length < bulk (.sl (.st (.pair I (.pair I I)))) c.2.2.2.2.2.2.2.1 at h2
  constructor <;> omega

theorem bulk_op (o : Op12) (h : bulk OpT o ≤ 1048576) : lenD o.2.2.2.2 := by
  refine bulk_card _ ?_
  have : bulk OpT o = bulk (.pair I (.pair I (.pair .str (.pair (.st (.pair I (.pair I I))) yC)))) o + 1 := rfl
  have h2 : bulk (.pair I (.pair I (.pair .str (.pair (.st (.pair I (.pair I I))) yC)))) o = bulk I o.1 + (bulk I o.2.1 + (bulk .str o.2.2.1 + (bulk (.st (.pair I (.pair I I))) o.2.2.2.1 + bulk yC o.2.2.2.2))) := rfl
  omega

theorem bulk_ops (l : List Op12) (h : bulk (.sl OpT) l ≤ 1048576) : ∀ o ∈ l, lenD o.2.2.2.2 := fun o ho => by
  refine bulk_op o ?_
  have := sum_mem (bulk OpT) ho
  have h2 : bulk (.sl OpT) l = (l.map (bulk OpT)).sum + 1 := rfl
  omega

theorem loop_inv {σ τ : Type} {f : σ → Option (σ ⊕ τ)} (P : Nat → σ → Prop) {n : Nat} (hs : ∀ i s, i < n → P i s → ∃ s', f s = some (.inl s') ∧ P (i + 1) s') (s0 : σ) (h0 : P 0 s0) : ∃ s, P n s ∧ loopO f s0 = loopO f s := by
  have : ∀ k, k ≤ n → ∃ s, P k s ∧ loopO f s0 = loopO f s := by
    intro k
    induction k with
    | zero => intro _; exact ⟨s0, h0, rfl⟩
    | succ k ih =>
      intro hk
      obtain ⟨s, p, e⟩ := ih (by omega)
      obtain ⟨s', e', p'⟩ := hs k s (by omega) p
      exact ⟨s', p', by rw [e, loopO_inl e']⟩
  exact this n (Nat.le_refl _)

theorem lw12_DealPlays_row (x0 : Int) (x1 : List Op12) (w0 : wfD I x0) (w1 : wfD (.sl OpT) x1) (hb : bulk I x0 + bulk (.sl OpT) x1 ≤ 1048576) : lw12_DealPlays (x0, x1) = some true := by
  obtain ⟨M, hM, hw⟩ := tmod_nat x0 60 (by decide) (by decide)
  change IntKind.i64.wrap (Int.tmod (IntKind.u64.wrap x0) 60) = (M : Int) at hw
  have hlen := bulk_ops x1 (by omega)
  have hN : IntKind.i64.wrap (64 + (M : Int)) = ((64 + M : Nat) : Int) := by rw [wrap64 (by omega) (by omega)]; omega
  have hr : 64 ≤ 64 + M ∧ 64 + M ≤ 400 := by omega
  generalize 64 + M = n at hN hr
  have hlS : ∀ o ∈ x1.take 150, lenD o.2.2.2.2 := fun o ho => hlen o (List.mem_of_mem_take ho)
  have h150 : (x1.take 150).length ≤ 150 := by simp; omega
  have hok := newX_ok n hr
  have himg := hok.okay.image
  dsimp only at himg
  rw [image_nil] at himg
  unfold lw12_DealPlays
  dsimp only
  rw [lives_is, Option.bind_some, if_neg (by simp), early_is, Option.bind_some, hw, hN, begin_is hr, Option.bind_some]
  dsimp only
  rw [himg, Option.bind_some]
  dsimp only
  rw [refBegin_is _ hok.full.len (by omega), Option.bind_some]
  dsimp only
  generalize x1.take 150 = S at hlS h150
  obtain ⟨s, ⟨k, c, xs, w, base, now, hs, _⟩, hloop⟩ := loop_inv (f := lw12_DealPlays.l1) (fun i s => ∃ (k c : Int) (xs : List Blk) (w : Loo) (base now : List Blk), s = (((c, -1), xs, [], (false, k), w, base, now), S, (i : Int)) ∧ Ok12 n (86 * i) k c xs w ∧ Full n base ∧ Full n now ∧ Rel n xs w base now) (n := S.length) (by
    rintro i s hi ⟨k, c, xs, w, base, now, rfl, h1, h2, h3, h4⟩
    have hmem : S.getD i (0, (0, ([], ((0, (0, 0)), (0, (0, (0, (0, ([], (0, (0, ([], 0)))))))))))) ∈ S := by
      rw [getD_lt hi]; exact List.getElem_mem hi
    obtain ⟨k', c', xs', w', base', now', b, e1, g1, g2, g3, _, g5⟩ := step_is h1 hr.1 (by omega) h2 h3 _ (hlS _ hmem)
    obtain ⟨rfl, g6⟩ := g5 h4
    refine ⟨_, ?_, k', c', xs', w', base', now', rfl, g1.mono (by omega) (by omega), g2, g3, g6⟩
    unfold lw12_DealPlays.l1
    dsimp only
    have himg := g1.okay.image
    dsimp only at himg
    rw [image_nil] at himg
    rw [if_pos (by simpa using hi), if_pos (by omega), Int.toNat_natCast, e1, Option.bind_some]
    dsimp only
    rw [if_pos (by decide), changed_d g1.full.len (by omega) g1.wf, Option.bind_some]
    dsimp only
    have hcl := chW_len n xs' w'
    rw [rchanged g2 g3 (by omega), g6.changed g1.full g1.wf, Option.bind_some]
    dsimp only
    rw [refSame_is _ _ (by rw [List.length_map]; omega), Option.bind_some, if_pos (by simp), himg, Option.bind_some]
    dsimp only
    rw [Lg.refSame_is g6.same (by rw [g1.full.len]; omega), Option.bind_some, if_neg (by decide), wrap_succ (by omega)]) (((0, -1), newX n, [], (false, 0), [], newX n, newX n), S, 0) ⟨0, 0, newX n, [], newX n, newX n, rfl, hok, newX_full n, newX_full n, Rel.fresh hok.full.len (Lg.sameS.refl _)⟩
  rw [hloop, hs, loopO_inr (r := .inl ()) (by
    unfold lw12_DealPlays.l1
    dsimp only
    rw [if_neg (by simp)]), Option.bind_some]

theorem lw12_DealApart_row (x0 : List Op12) (x1 : Int) (w0 : wfD (.sl OpT) x0) (w1 : wfD I x1) (hb : bulk (.sl OpT) x0 + bulk I x1 ≤ 1048576) : lw12_DealApart (x0, x1) = some true := by
  have hlen := bulk_ops x0 (by omega)
  have hr : 64 ≤ 80 ∧ 80 ≤ 400 := by decide
  have hlS : ∀ o ∈ x0.take 150, lenD o.2.2.2.2 := fun o ho => hlen o (List.mem_of_mem_take ho)
  have h150 : (x0.take 150).length ≤ 150 := by simp; omega
  have hok := newX_ok 80 hr
  unfold lw12_DealApart
  dsimp only
  rw [lives_is, Option.bind_some, if_neg (by simp), early_is, Option.bind_some, show (80 : Int) = ((80 : Nat) : Int) from rfl, new0 80 hr.2, Option.bind_some]
  dsimp only
  rw [log_open0 hr, Option.bind_some]
  dsimp only
  have hbg : ∀ (xs : List Blk), deal_Begin_2 ((false, 0), (0, -1), xs, []) = some (((false, 0), (0, -1), xs, [], []), 0) := fun xs => rfl
  rw [if_neg (by decide), hbg, Option.bind_some]
  dsimp only
  rw [hbg, Option.bind_some]
  dsimp only
  rw [if_pos (by decide), if_neg (by decide), read_d hok.full.len, Option.bind_some]
  generalize x0.take 150 = S at hlS h150
  generalize hrd : (if thereS 80 x1 = true then (getW (newX 80) [] x1, (0 : Int)) else ([], 1)) = R
  obtain ⟨s, ⟨w, m, hm, hs, hokw⟩, hloop⟩ := loop_inv (f := lw12_DealApart.l1) (fun i s => ∃ (w : Loo) (m : Nat), m ≤ 86 * i ∧ s = (((0, -1), newX 80, [], (false, 0), w, []), S, x1, R.1, R.2, (i : Int)) ∧ Ok12 80 m 0 0 (newX 80) w) (n := S.length) (by
    rintro i s hi ⟨w, m, hm, rfl, h1⟩
    have hmem : S.getD i (0, (0, ([], ((0, (0, 0)), (0, (0, (0, (0, ([], (0, (0, ([], 0)))))))))))) ∈ S := by
      rw [getD_lt hi]; exact List.getElem_mem hi
    have hol := hlS _ hmem
    generalize ho : S.getD i (0, (0, ([], ((0, (0, 0)), (0, (0, (0, (0, ([], (0, (0, ([], 0)))))))))))) = o at hol
    obtain ⟨kd, hkd, hk⟩ := kind_is o
    have himg := h1.okay.image
    dsimp only at himg
    rw [image_nil] at himg
    by_cases h6 : kd = 6
    · refine ⟨_, ?_, w, m, by omega, rfl, h1⟩
      unfold lw12_DealApart.l1
      dsimp only
      rw [if_pos (by simpa using hi), if_pos (by omega), Int.toNat_natCast, ho, hk, Option.bind_some, if_neg (by simp; omega), wrap_succ (by omega)]
    · obtain ⟨k', c', xs', w', base', now', b, e1, g1, g2, g3, g4, _⟩ := step_is h1 hr.1 (by omega) (newX_full 80) (newX_full 80) o hol
      obtain ⟨rfl, rfl, rfl⟩ := g4 (by rw [hk]; intro q; exact h6 (by have := Option.some.inj q; omega))
      refine ⟨_, ?_, w', m + 86, by omega, rfl, g1⟩
      unfold lw12_DealApart.l1
      dsimp only
      rw [if_pos (by simpa using hi), if_pos (by omega), Int.toNat_natCast, ho, hk, Option.bind_some, if_pos (by simp; omega), himg, Option.bind_some]
      dsimp only
      rw [refBegin_is _ h1.full.len (by decide), Option.bind_some]
      dsimp only
      rw [if_pos (by omega), e1, Option.bind_some]
      dsimp only
      rw [wrap_succ (by omega)]) (((0, -1), newX 80, [], (false, 0), [], []), S, x1, R.1, R.2, 0) ⟨[], 0, by omega, rfl, hok⟩
  rw [hloop, hs, loopO_inr (r := (((0, -1), newX 80, [], (false, 0), w, []), x1, R.1, R.2)) (by
    unfold lw12_DealApart.l1
    dsimp only
    rw [if_neg (by simp)]), Option.bind_some]
  dsimp only
  rw [read_d hok.full.len, hrd, Option.bind_some, if_pos (by simp), if_pos (by simp), changed_d hok.full.len (by decide) (WfW.nil 80), chW_nil, Option.bind_some]
  dsimp only
  unfold slab_Slab_Calls
  rw [if_pos (by decide), Option.bind_some, if_neg (by decide), read_d hok.full.len, Option.bind_some]
  obtain ⟨c1, c2⟩ := commit_d (k := 0) hokw.full hokw.okay hr.1 (by omega) (by decide) hokw.wf
  rw [c1, Option.bind_some]
  by_cases h40 : (chW 80 (newX 80) w).length > 40
  · rw [if_pos h40]
    dsimp only
    rw [if_pos (by decide), changed_d hok.full.len (by decide) hokw.wf, Option.bind_some, List.length_map]
    simp; omega
  · rw [if_neg h40]
    have hread : ∀ i : Int, thereS 80 i = true → (Lg.putS (newX 80) (chW 80 (newX 80) w)).getD i.toNat [] = getW (newX 80) w i := fun i hi => by
      have := there_i hi
      have h2 := put_get hok.full.len w i.toNat (by omega)
      rw [show ((i.toNat : Nat) : Int) = i by omega] at h2
      exact h2
    by_cases hnil : chW 80 (newX 80) w = []
    · rw [if_pos hnil]
      dsimp only
      rw [if_neg (by decide), read_d hok.full.len, hrd, Option.bind_some]
      by_cases ht : thereS 80 x1 = true
      · have h2 := hread x1 ht
        rw [hnil] at h2
        rw [if_pos ht, ← hrd, if_pos ht, getW_nil]
        have h3 : (Lg.putS (newX 80) []).getD x1.toNat [] = (newX 80).getD x1.toNat [] := rfl
        rw [← h2, h3]
        simp
      · rw [if_neg ht, ← hrd, if_neg ht]
        simp
    · rw [if_neg hnil]
      dsimp only
      have hl2 : (Lg.commS (newX 80) (chW 80 (newX 80) w)).length = 80 := by rw [Lg.comm_len]; exact hok.full.len
      rw [if_neg (by decide), read_d hl2, Option.bind_some]
      by_cases ht : thereS 80 x1 = true
      · have h2 := hread x1 ht
        have h0 := there_i ht
        have hsm := (Lg.comm_same (Lg.sameS.refl (newX 80)) (chW 80 (newX 80) w) (by omega)).2 x1.toNat (by rw [hl2]; omega) (own_there (n := 80) (by omega) (by rw [show ((x1.toNat : Nat) : Int) = x1 by omega]; exact ht))
        rw [if_pos ht, if_pos ht, ← hrd, if_pos ht, getW_nil, hsm, h2]
        simp
      · rw [if_neg ht, if_neg ht, ← hrd, if_neg ht]
        simp

end Go.Proofs.YtiodpeekbeahlaaGreatDoor.Abs
