/- Chains: saving, step by step. -/
import Derived.Test.YtlbammfnkphajaaGreatDoorChG
namespace Go.Proofs.YtlbammfnkphajaaGreatDoor.Abs
open Go
set_option linter.unusedVariables false
attribute [-simp] List.getD_eq_getElem?_getD

/-- A file whose blocks are not touched stays. -/
theorem ldS_frame {g g' : Int → Blk} {n : Nat} {st : Bool × List Int} {b : Int} (h : (ldS g n st b).1.1 = false) (hg : ∀ q ∈ (ldS g n st b).1.2, g' q = g q) : ldS g' n st b = ldS g n st b := by
  unfold ldS at h hg ⊢
  by_cases c : b = 0 ∨ st.1 = true
  · rw [if_pos c, if_pos c]
  · rw [if_neg c] at h hg ⊢
    rw [if_neg c]
    have e : g' b = g b := hg b (by unfold afterL; split <;> simp)
    unfold rdL
    rw [e]

theorem ldS_grow (g : Int → Blk) (n : Nat) (st : Bool × List Int) (b : Int) : (∀ q ∈ st.2, q ∈ (ldS g n st b).1.2) ∧ (st.1 = true → (ldS g n st b).1.1 = true) := by
  unfold ldS
  split
  · exact ⟨fun q h => h, fun h => h⟩
  · rename_i c
    unfold afterL
    split <;> exact ⟨fun q h => List.mem_append.2 (.inl h), fun h => absurd (.inr h) c⟩

theorem ldsS_grow (g : Int → Blk) (n : Nat) : ∀ (bs : List Int) (st : Bool × List Int), (∀ q ∈ st.2, q ∈ (ldsS g n st bs).1.2) ∧ (st.1 = true → (ldsS g n st bs).1.1 = true)
  | [], _ => ⟨fun q h => h, fun h => h⟩
  | b :: bs, st => by
    obtain ⟨a1, a2⟩ := ldS_grow g n st b
    obtain ⟨b1, b2⟩ := ldsS_grow g n bs (ldS g n st b).1
    exact ⟨fun q h => b1 q (a1 q h), fun h => b2 (a2 h)⟩

theorem ff {b : Bool} (h : b = true → False) : b = false := by cases b <;> simp_all

theorem ldsS_frame {g g' : Int → Blk} {n : Nat} : ∀ {bs : List Int} {st : Bool × List Int}, (ldsS g n st bs).1.1 = false → (∀ q ∈ (ldsS g n st bs).1.2, g' q = g q) → ldsS g' n st bs = ldsS g n st bs
  | [], _, _, _ => rfl
  | b :: bs, st, h, hg => by
    obtain ⟨b1, b2⟩ := ldsS_grow g n bs (ldS g n st b).1
    have h1 : (ldS g n st b).1.1 = false := ff fun e => by have := b2 e; rw [ldsS] at h; dsimp only at h; rw [h] at this; cases this
    have e1 := ldS_frame (g' := g') h1 (fun q hq => hg q (b1 q hq))
    have e2 := ldsS_frame (g := g) (g' := g') (n := n) (bs := bs) (st := (ldS g n st b).1) h hg
    rw [ldsS, ldsS, e1, e2]

theorem rgS_frame {g g' : Int → Blk} {n : Nat} {k : Card} (h : (rgS g n k).1.1 = false) (hg : ∀ q ∈ (rgS g n k).1.2, g' q = g q) : rgS g' n k = rgS g n k := by
  unfold rgS at h hg ⊢
  dsimp only at h hg ⊢
  rw [Bool.or_eq_false_iff] at h
  obtain ⟨a1, a2⟩ := ldsS_grow g n (ldS g n (ldS g n (false, []) k.2.2.2.2.2.1).1 k.2.2.2.2.2.2.1).2 (ldS g n (ldS g n (false, []) k.2.2.2.2.2.1).1 k.2.2.2.2.2.2.1).1
  obtain ⟨b1, b2⟩ := ldS_grow g n (ldS g n (false, []) k.2.2.2.2.2.1).1 k.2.2.2.2.2.2.1
  have h2 : (ldS g n (ldS g n (false, []) k.2.2.2.2.2.1).1 k.2.2.2.2.2.2.1).1.1 = false := ff fun e => by have := a2 e; rw [h.2] at this; cases this
  have h1 : (ldS g n (false, []) k.2.2.2.2.2.1).1.1 = false := ff fun e => by have := b2 e; rw [h2] at this; cases this
  have e1 := ldS_frame (g' := g') h1 (fun q hq => hg q (a1 q (b1 q hq)))
  have e2 := ldS_frame (g' := g') h2 (fun q hq => hg q (a1 q hq))
  rw [e1, e2, ldsS_frame (g' := g') h.2 hg]

theorem Filed.frame {n : Nat} {xs : List Blk} {w w' : Loo} {k : Card} {m bs : List Int} (h : Filed n xs w k m bs) (h1 : ∀ b ∈ bs, getW xs w' b = getW xs w b) (h2 : ∀ b ∈ bs, isM (mkW xs w') b = true) : Filed n xs w' k m bs := by
  refine ⟨h.card, h.len, ?_, fun b hb => ⟨(h.used b hb).1, h2 b hb⟩, h.nodup, h.few⟩
  have hl := h.load
  unfold loadR at hl ⊢
  split at hl
  · cases hl
  · rename_i hc
    have hc : (rgS (getW xs w) n k).1.1 = false := ff hc
    cases hl
    rw [rgS_frame hc h1, hc, if_neg (by decide)]

theorem fresh_filed {n : Nat} {xs : List Blk} {w : Loo} : Filed n xs w fresh (wid 76 []) [] :=
  ⟨by decide +kernel, ⟨by decide, by decide⟩, by
    have e : rgS (getW xs w) n fresh = ((false, []), [], []) := rfl
    unfold loadR
    rw [e, if_neg (by decide)]
    decide +kernel, (fun b hb => by cases hb), List.nodup_nil, by decide⟩

section
variable {n : Nat} {xs : List Blk} {w : Loo} (h : Disk 1 n xs w) (c u : Int) (p1 : Bool) (p2 : Int)

include h in
theorem wtake_s {a : Nat} (ha : firstF (mkW xs w) n = some a) : chains_writer_take (0, (p1, p2), w, (c, u), xs, []) = some ((0, (p1, p2), takeW xs w a, (c, u), xs, []), (a : Int)) := by
  unfold chains_writer_take
  dsimp only
  rw [if_neg (by decide), take_s h, ha, Option.bind_some]

include h in
theorem wput1_s {b : Int} (hb : ownI n b = true) {l : List Int} (hl : smallL l) : chains_writer_put_1 ((0, (p1, p2), w, (c, u), xs, []), b, l) = some (0, (p1, p2), mp w b (ladB l), (c, u), xs, []) := by
  have hlen := ladB_len hl
  unfold chains_writer_put_1
  dsimp only
  rw [if_neg (by decide), lwrite1_s hl, Option.bind_some]
  dsimp only
  rw [if_pos (by decide), write_s h _ _ _ _ b _ (by omega) (there_own b (own_bounds hb)), Option.bind_some, wholeS_id _ hlen]

theorem put_same : chains_writer_put = chains_writer_put_1 := rfl

include h in
theorem wlist_s (l : List Int) (hl : l = [] ∨ smallL l) (hf : l = [] ∨ 0 < freeS n (mkW xs w)) :
    chains_writer_list ((0, (p1, p2), w, (c, u), xs, []), l) = some ((0, (p1, p2), (layL xs n w l).1, (c, u), xs, []), (layL xs n w l).2) := by
  rcases hl with rfl | hl
  · unfold chains_writer_list
    dsimp only
    rw [if_pos (by decide)]
    rfl
  · have hne : l ≠ [] := fun e => by have := hl.1; rw [e] at this; simp at this
    obtain ⟨a, ha, a1, a2, a3⟩ := firstF_some (hf.resolve_left hne)
    have e : layL xs n w l = (mp (takeW xs w a) (a : Int) (ladB l), (a : Int)) := by
      unfold layL
      rw [if_neg (by simpa using hne), ha]
    have ho : ownI n (a : Int) = true := by unfold ownI; rw [decide_eq_true_eq]; omega
    have hem : (l.isEmpty ^^ false) = false := by cases l with
      | nil => exact absurd rfl hne
      | cons x l => rfl
    unfold chains_writer_list
    dsimp only
    rw [hem, if_neg (by decide), wtake_s h c u p1 p2 ha, Option.bind_some]
    dsimp only
    rw [put_same, wput1_s (h.take a1 a2) c u p1 p2 ho hl, Option.bind_some, e]

theorem drops_loop (q : tQ) (k : Card) (t : List Int) : ∀ (bs pre : List Int) (w : Loo), Disk 1 n xs w → pre ++ bs = t → t.length ≤ 1000000 → (∀ b ∈ bs, ownI n b = true ∧ isM (mkW xs w) b = true) → bs.Nodup →
    loopO chains_Save.l3 (((p1, p2), w, (c, u), xs, [], k, zeroC, q), t, (t.length : Int), (pre.length : Int)) = some (.inl ((p1, p2), dropsW xs w bs, (c, u), xs, [], k, zeroC, q))
  | [], pre, w, hw, ht, _, _, _ => by
    refine loopO_inr ?_
    obtain ⟨k1, k2, k3, k4, k5, k6, k7, k8, k9⟩ := k
    obtain ⟨q1, q2, q3⟩ := q
    unfold chains_Save.l3 zeroC
    dsimp only
    rw [if_neg (by rw [← ht]; simp)]
    rfl
  | b :: bs, pre, w, hw, ht, htl, hu, hn => by
    have hr := hw.room
    obtain ⟨hb1, hb2⟩ := hu b List.mem_cons_self
    have hnd := List.nodup_cons.1 hn
    have hlen : pre.length < t.length := by rw [← ht]; simp
    have hg : t.getD pre.length 0 = b := by rw [← ht]; simp [List.getD]
    have step : chains_Save.l3 (((p1, p2), w, (c, u), xs, [], k, zeroC, q), t, (t.length : Int), (pre.length : Int)) = some (.inl (((p1, p2), dropW xs w b, (c, u), xs, [], k, zeroC, q), t, (t.length : Int), (((pre ++ [b]).length : Nat) : Int))) := by
      obtain ⟨k1, k2, k3, k4, k5, k6, k7, k8, k9⟩ := k
      obtain ⟨q1, q2, q3⟩ := q
      unfold chains_Save.l3 zeroC
      dsimp only
      rw [if_pos (by simpa using hlen), if_pos (by omega), Int.toNat_natCast, hg, drop_s hw, if_pos ⟨hb1, hb2⟩, Option.bind_some]
      dsimp only
      rw [if_neg (by decide), wrap_succ (by omega), List.length_append, List.length_singleton]
    rw [loopO_inl step]
    exact drops_loop q k t bs (pre ++ [b]) (dropW xs w b) (hw.drop b) (by rw [← ht]; simp) htl (fun x hx => ⟨(hu x (List.mem_cons_of_mem _ hx)).1, by
      rw [isM_drop hw hb1, if_neg (fun e => hnd.1 (by rw [← e]; exact hx))]
      exact (hu x (List.mem_cons_of_mem _ hx)).2⟩) hnd.2

theorem puts_loop (k : Card) (t : List (List Int)) : ∀ (ls pre : List (List Int)) (w : Loo) (acc : List Int), Disk 1 n xs w → pre ++ ls = t → t.length ≤ 1000 → acc.length = pre.length → (∀ l ∈ ls, l = [] ∨ smallL l) → cntL ls ≤ freeS n (mkW xs w) →
    loopO chains_Save.l4 (((p1, p2), w, (c, u), xs, [], k, zeroC, 0, acc), t, (t.length : Int), (pre.length : Int)) = some ((p1, p2), (laysL xs n w ls).1, (c, u), xs, [], k, zeroC, 0, acc ++ (laysL xs n w ls).2)
  | [], pre, w, acc, hw, ht, _, _, _, _ => by
    refine loopO_inr ?_
    obtain ⟨k1, k2, k3, k4, k5, k6, k7, k8, k9⟩ := k
    unfold chains_Save.l4 zeroC
    dsimp only
    rw [if_neg (by rw [← ht]; simp), laysL, List.append_nil]
  | l :: ls, pre, w, acc, hw, ht, htl, ha, hl, hf => by
    have hlen : pre.length < t.length := by rw [← ht]; simp
    have hg : t.getD pre.length [] = l := by rw [← ht]; simp [List.getD]
    have hc : cntL (l :: ls) = cntL [l] + cntL ls := by
      unfold cntL
      rw [← List.length_append, ← List.filter_append]
      rfl
    have h0 : l = [] ∨ 0 < freeS n (mkW xs w) := by
      by_cases e : l = []
      · exact .inl e
      · right
        have : cntL [l] = 1 := by unfold cntL; rw [List.filter_cons_of_pos (by simpa using e)]; rfl
        omega
    obtain ⟨g1, a1⟩ := put_ok hw l (hl l List.mem_cons_self) h0
    have hz : (nz [(layL xs n w l).2]).length = cntL [l] := (laid_count (g := getW xs (layL xs n w l).1) (n := n) (ls := [l]) (bs := [(layL xs n w l).2]) ⟨a1, trivial⟩).1
    have hfree := g1.free
    have step : chains_Save.l4 (((p1, p2), w, (c, u), xs, [], k, zeroC, 0, acc), t, (t.length : Int), (pre.length : Int)) = some (.inl (((p1, p2), (layL xs n w l).1, (c, u), xs, [], k, zeroC, 0, acc ++ [(layL xs n w l).2]), t, (t.length : Int), (((pre ++ [l]).length : Nat) : Int))) := by
      obtain ⟨k1, k2, k3, k4, k5, k6, k7, k8, k9⟩ := k
      unfold chains_Save.l4 zeroC
      dsimp only
      rw [if_pos (by simpa using hlen), if_pos (by omega), Int.toNat_natCast, hg, wlist_s hw c u p1 p2 l (hl l List.mem_cons_self) h0, Option.bind_some]
      dsimp only
      rw [if_pos (room (by decide) (by rw [List.length_singleton]; omega)), wrap_succ (by omega), List.length_append, List.length_singleton]
    rw [loopO_inl step, puts_loop k t ls (pre ++ [l]) (layL xs n w l).1 (acc ++ [(layL xs n w l).2]) g1.disk (by rw [← ht]; simp) htl (by rw [List.length_append, List.length_append, ha]; rfl) (fun x hx => hl x (List.mem_cons_of_mem _ hx)) (by omega), laysL, List.append_assoc]
    rfl

include h in
theorem save_s {k : Card} {m0 : List Int} {bs : List Int} (hf : Filed n xs w k m0 bs) (m : List Int) (hm : m.length ≤ 60000) (he : entries n m) :
    chains_Save (((p1, p2), w, (c, u), xs, []), k, m) = some (
      if overM m = true then (((p1, p2), w, (c, u), xs, []), zeroC, 12)
      else if freeS n (mkW xs w) + bs.length < nbM m then (((p1, p2), w, (c, u), xs, []), zeroC, 10)
      else (((p1, p2), (saveW xs n w bs m).1, (c, u), xs, []), cardS k m (saveW xs n w bs m).2.1 (saveW xs n w bs m).2.2.1, 0)) := by
  have hr := h.room
  have hload := load_s h c u p1 p2 k hf.len
  rw [hf.card, if_pos rfl, hf.load] at hload
  have hfl : freeS n (mkW xs w) ≤ n := by unfold freeS; omega
  have hfew := hf.few
  have hnb := nbM_le m
  have hdl8 : (rDD m).length ≤ 8 := by
    unfold rDD
    split
    · simp [rRows]
    · simp
  have hof := of_s m (by omega)
  rw [ent_rng hr.2 he, if_neg (c := false = true) (by decide)] at hof
  unfold chains_Save
  dsimp only
  rw [hload, Option.bind_some]
  unfold ldM
  dsimp only
  rw [if_neg (by decide)]
  cases ho : overM m with
  | true =>
    rw [ho, if_pos rfl] at hof
    rw [hof, Option.bind_some]
    dsimp only
    rw [if_pos (by decide), if_pos rfl]
    rfl
  | false =>
    rw [ho, if_neg (c := false = true) (by decide)] at hof
    rw [hof, Option.bind_some, if_neg (c := false = true) (by decide)]
    dsimp only
    rw [if_neg (by decide), co2_s h c u p1 p2 k hf.len hf.card, Option.bind_some]
    dsimp only
    rw [cont2 h c u p1 p2 m (by omega), Option.bind_some, ent_odd he, if_neg (by decide), free_s h, Option.bind_some]
    dsimp only
    rw [if_neg (by decide), blocks_s _ _ _ (by omega), Option.bind_some, freeS_int, wrap64 (by omega) (by omega), show nbS (rS m) (rDD m) = nbM m from rfl]
    by_cases hfree : freeS n (mkW xs w) + bs.length < nbM m
    · rw [if_pos hfree, if_pos (by rw [decide_eq_true_eq]; omega)]
      rfl
    · rw [if_neg hfree, if_neg (by rw [decide_eq_true_eq]; omega)]
      obtain ⟨d1, d2, d3⟩ := drops_ok bs w h hf.used hf.nodup
      have hdl := drops_loop (c := c) (u := u) (p1 := p1) (p2 := p2) (wid 4 m, rS m, rDD m) k bs bs [] w h rfl (by omega) hf.used hf.nodup
      have hdl : loopO chains_Save.l3 (((p1, p2), w, (c, u), xs, [], k, zC, (wid 4 m, rS m, rDD m)), bs, (bs.length : Int), 0) = _ := hdl
      rw [hdl, Option.bind_some]
      have hsave : saveW xs n w bs m = tailW xs n (dropsW xs w bs) (rS m) (rDD m) := rfl
      rw [hsave]
      have hgs : goodL n (rS m) := lst_good (ent_row he 4) (row_len _ _)
      have hgd := rDD_good he
      have hfr : nbS (rS m) (rDD m) ≤ freeS n (mkW xs (dropsW xs w bs)) := by
        rw [d3]
        have : nbS (rS m) (rDD m) = nbM m := rfl
        omega
      generalize dropsW xs w bs = w1 at d1 hfr
      generalize rS m = s at hgs hfr
      generalize rDD m = dd at hgd hfr hdl8
      clear hof hdl hsave hload d2 d3 hfree hnb hfl hfew
      have hc1 : (if (!s.isEmpty) = true then 1 else 0) = cntL [s] := by
        unfold cntL
        by_cases e : (!s.isEmpty) = true
        · rw [if_pos e, List.filter_cons_of_pos (p := fun l : List Int => !l.isEmpty) e]; rfl
        · rw [if_neg e, List.filter_cons_of_neg (p := fun l : List Int => !l.isEmpty) e]; rfl
      unfold nbS at hfr
      rw [hc1] at hfr
      have h0 : s = [] ∨ 0 < freeS n (mkW xs w1) := by
        by_cases e : s = []
        · exact .inl e
        · right
          have : cntL [s] = 1 := by unfold cntL; rw [List.filter_cons_of_pos (by simpa using e)]; rfl
          omega
      obtain ⟨g1, a1⟩ := put_ok d1 s (hgs.small hr.2) h0
      have hz : (nz [(layL xs n w1 s).2]).length = cntL [s] := (laid_count (g := getW xs (layL xs n w1 s).1) (n := n) (ls := [s]) (bs := [(layL xs n w1 s).2]) ⟨a1, trivial⟩).1
      have hfree := g1.free
      obtain ⟨k1, k2, k3, k4, k5, k6, k7, k8, k9⟩ := k
      unfold zeroC
      dsimp only
      rw [wlist_s d1 c u p1 p2 s (hgs.small hr.2) h0, Option.bind_some]
      dsimp only
      have hx : (dd.isEmpty ^^ true) = !dd.isEmpty := by cases dd.isEmpty <;> rfl
      rw [hx]
      unfold tailW
      by_cases hdd : (!dd.isEmpty) = true
      · rw [if_pos hdd] at hfr
        rw [if_pos hdd, if_pos hdd]
        have hdn : dd ≠ [] := by simpa using hdd
        obtain ⟨e1, e2, e3⟩ := hgd.resolve_left hdn
        obtain ⟨a, ha, x1, x2, x3⟩ := firstF_some (m := mkW xs (layL xs n w1 s).1) (n := n) (by omega)
        have gt := Grown.take g1.disk x1 x2 x3
        have hft := gt.free
        rw [List.length_singleton] at hft
        rw [wtake_s g1.disk c u p1 p2 ha, Option.bind_some, ha]
        dsimp only
        have hpl := puts_loop c u p1 p2 (k1, k2, k3, k4, wid 4 m, (layL xs n w1 s).2, (a : Int), k8, k9) dd dd [] (takeW xs (layL xs n w1 s).1 a) [] gt.disk rfl (by omega) rfl (fun l hl => (e3 l hl).small hr.2) (by omega)
        have hpl : loopO chains_Save.l4 (((p1, p2), takeW xs (layL xs n w1 s).1 a, (c, u), xs, [], (k1, k2, k3, k4, wid 4 m, (layL xs n w1 s).2, (a : Int), k8, k9), (0, 0, 0, 0, [], 0, 0, [], 0), 0, []), dd, (dd.length : Int), 0) = _ := hpl
        rw [hpl, Option.bind_some]
        obtain ⟨g3, l3⟩ := puts_ok dd (takeW xs (layL xs n w1 s).1 a) gt.disk (fun l hl => (e3 l hl).small hr.2) (by omega)
        obtain ⟨c1, c2⟩ := laid_count l3
        obtain ⟨o1, o2⟩ := laid_odd l3
        have hsq : smallL (laysL xs n (takeW xs (layL xs n w1 s).1 a) dd).2 := ⟨by rw [c2, e1], odd_small hr.2 o1⟩
        unfold zeroC
        dsimp only
        rw [List.nil_append, wput1_s g3.disk c u p1 p2 (by unfold ownI; rw [decide_eq_true_eq]; omega) hsq, Option.bind_some, Option.bind_some]
        dsimp only
        rw [if_neg (by decide)]
        rfl
      · rw [if_neg hdd, if_neg hdd, Option.bind_some]
        dsimp only
        rw [if_neg (by decide)]
        rfl

include h in
theorem load1_s {k : Card} {m : List Int} {bs : List Int} (hf : Filed n xs w k m bs) : chains_Load_1 (((p1, p2), w, (c, u), xs, []), k) = some (((p1, p2), w, (c, u), xs, []), m, 0) := by
  have hload := load_s h c u p1 p2 k hf.len
  rw [hf.card, if_pos rfl, hf.load] at hload
  unfold chains_Load_1
  dsimp only
  rw [hload, Option.bind_some]
  rfl

include h in
theorem lists_s {k : Card} {m : List Int} {bs : List Int} (hf : Filed n xs w k m bs) : chains_Lists_1 (((p1, p2), w, (c, u), xs, []), k) = some (((p1, p2), w, (c, u), xs, []), bs, 0) := by
  have hload := load_s h c u p1 p2 k hf.len
  rw [hf.card, if_pos rfl, hf.load] at hload
  unfold chains_Lists_1
  dsimp only
  rw [hload, Option.bind_some]
  rfl
end

end Go.Proofs.YtlbammfnkphajaaGreatDoor.Abs
