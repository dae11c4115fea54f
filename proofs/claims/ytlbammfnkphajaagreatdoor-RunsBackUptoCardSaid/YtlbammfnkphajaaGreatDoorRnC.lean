/- Runs: what is loaded. -/
import Derived.Test.YtlbammfnkphajaaGreatDoorRnB
namespace Go.Proofs.YtlbammfnkphajaaGreatDoor.Abs
open Go
set_option linter.unusedVariables false
attribute [-simp] List.getD_eq_getElem?_getD

theorem any_loop {α σ : Type} {f : σ → Option (σ ⊕ (Unit ⊕ Int))} (l : List α) (d : α) (p : α → Bool) (st : Nat → σ) (hs : ∀ i, i < l.length → f (st i) = if p (l.getD i d) = true then some (.inr (.inr (i : Int))) else some (.inl (st (i + 1)))) (he : f (st l.length) = some (.inr (.inl ()))) :
    ((loopO f (st 0)).bind fun r => match r with | .inl _ => some (-1 : Int) | .inr t => some t).bind (fun r7 => some (decide (r7 ≥ 0))) = some (l.any p) := by
  obtain ⟨j, _, hj, hb, hst, hrun⟩ := loop_first (f := f) st (fun i => p (l.getD i d)) (n := l.length) (r := fun i => if i < l.length then .inr (i : Int) else .inl ()) l.length 0 (by omega) (fun i _ hi => by
    rw [hs i hi]
    by_cases q : p (l.getD i d) = true
    · rw [if_pos q, if_pos q, if_pos hi]
    · rw [if_neg q, if_neg q]) (by rw [he, if_neg (by omega)])
  rw [hrun, Option.bind_some]
  by_cases hjl : j < l.length
  · rw [if_pos hjl]
    have h1 := hst hjl
    have : l.any p = true := List.any_eq_true.2 ⟨l[j], List.getElem_mem hjl, by rw [getD_lt hjl] at h1; exact h1⟩
    rw [this]
    simp
  · rw [if_neg hjl]
    have : l.any p = false := by
      rw [List.any_eq_false]
      intro x hx
      obtain ⟨i, hi, rfl⟩ := List.getElem_of_mem hx
      have := hb i (Nat.zero_le _) (by omega)
      rw [getD_lt hi] at this
      rw [this]
      decide
    rw [this]
    rfl

/-! ### A page is read -/

theorem rd3 (s : Blk) (j : Nat) (h : j + 6 ≤ s.length) : mould_Read ([2, 2, 2], s.drop j) = some ([w2 s j, w2 s (j + 2), w2 s (j + 4)], 0) := by
  rw [mould_Read_is _ _ (by decide), rd_ok _ _ (by decide) (by rw [List.length_drop]; simp; omega)]
  have e : rdS [2, 2, 2] (s.drop j) = [((val ((s.drop j).take 2) : Nat) : Int), ((val (((s.drop j).drop 2).take 2) : Nat) : Int), ((val ((((s.drop j).drop 2).drop 2).take 2) : Nat) : Int)] := rfl
  rw [e, List.drop_drop, List.drop_drop, val2w _ _ (by omega), val2w _ _ (by omega), val2w _ _ (by omega)]
theorem rd1 (s : Blk) (j : Nat) (h : j + 2 ≤ s.length) : mould_Read ([2], s.drop j) = some ([w2 s j], 0) := by
  rw [mould_Read_is _ _ (by decide), rd_ok _ _ (by decide) (by rw [List.length_drop]; simp; omega)]
  have e : rdS [2] (s.drop j) = [((val ((s.drop j).take 2) : Nat) : Int)] := rfl
  rw [e, val2w _ _ (by omega)]

theorem read_p (s : Blk) (hs : s.length = 128) : ∃ p, runs_read s = some (p, pageOk s) ∧ (pageOk s = true → p = (pageR s, pageX s)) := by
  have hlt := (s.getD 0 0).toNat_lt
  have e0 : IntKind.i64.wrap (((s.getD 0 0).toNat : Nat) : Int) = ((pageN s : Nat) : Int) := wrap64 (by omega) (by omega)
  unfold runs_read
  rw [if_pos (by omega), e0]
  have hN : pageN s < 256 := hlt
  by_cases h1 : pageN s < 1
  · refine ⟨([], 0), ?_, fun q => ?_⟩
    · rw [if_neg (by simp; omega)]
      unfold pageOk
      rw [decide_eq_false (p := 1 ≤ pageN s ∧ pageN s ≤ 20) (by omega)]
      rfl
    · unfold pageOk at q
      rw [decide_eq_false (p := 1 ≤ pageN s ∧ pageN s ≤ 20) (by omega)] at q
      cases q
  · rw [if_pos (by simp; omega)]
    by_cases h2 : pageN s > 20
    · refine ⟨([], 0), ?_, fun q => ?_⟩
      · rw [if_neg (by simp; omega)]
        unfold pageOk
        rw [decide_eq_false (p := 1 ≤ pageN s ∧ pageN s ≤ 20) (by omega)]
        rfl
      · unfold pageOk at q
        rw [decide_eq_false (p := 1 ≤ pageN s ∧ pageN s ≤ 20) (by omega)] at q
        cases q
    · have e1 : IntKind.i64.wrap (6 * ((pageN s : Nat) : Int)) = ((6 * pageN s : Nat) : Int) := by rw [wrap64 (by omega) (by omega)]; omega
      have e2 : IntKind.i64.wrap (1 + ((6 * pageN s : Nat) : Int)) = ((1 + 6 * pageN s : Nat) : Int) := by rw [wrap64 (by omega) (by omega)]; omega
      obtain ⟨r, hr1, hr2⟩ := trim_is ((s.take 126).drop (1 + 6 * pageN s)) (by simp; omega)
      rw [if_pos (by simp; omega), e1, e2, if_pos (by omega), Int.toNat_natCast, hr1, Option.bind_some, hr2]
      have hdec : decide (1 ≤ pageN s ∧ pageN s ≤ 20) = true := decide_eq_true (by omega)
      cases hz : zeros ((s.take 126).drop (1 + 6 * pageN s)) with
      | false =>
        refine ⟨([], 0), ?_, fun q => ?_⟩
        · rw [if_pos (by decide)]
          unfold pageOk
          rw [hdec, hz]
          rfl
        · unfold pageOk at q
          rw [hz, Bool.and_false, Bool.false_and] at q
          cases q
      | true =>
        rw [if_neg (by decide)]
        have := loop_run (f := runs_read.l1) (fun i => (((([] : Pg), (0 : Int)), (0 : Int), (List.range i).map (runAt s)), s, ((pageN s : Nat) : Int), ((pageN s : Nat) : Int), (i : Int))) (n := pageN s) (r := (((([] : Pg), (0 : Int)), (0 : Int), pageR s), s, ((pageN s : Nat) : Int))) (fun i hi => by
          have a1 : IntKind.i64.wrap (6 * (i : Int)) = ((6 * i : Nat) : Int) := by rw [wrap64 (by omega) (by omega)]; omega
          have a2 : IntKind.i64.wrap (1 + ((6 * i : Nat) : Int)) = ((1 + 6 * i : Nat) : Int) := by rw [wrap64 (by omega) (by omega)]; omega
          unfold runs_read.l1
          dsimp only
          rw [if_pos (by simpa using hi), a1, a2, if_pos (by omega), Int.toNat_natCast, rd3 s (1 + 6 * i) (by omega), Option.bind_some]
          dsimp only
          rw [if_pos (by simp), if_pos (by simp), if_pos (by simp), if_pos (room (by decide) (by simp; omega)), wrap_succ (by omega), List.range_succ, List.map_append]
          have e : runAt s i = (w2 s (1 + 6 * i), w2 s (1 + 6 * i + 2), w2 s (1 + 6 * i + 4)) := by
            unfold runAt
            rw [show 3 + 6 * i = 1 + 6 * i + 2 by omega, show 5 + 6 * i = 1 + 6 * i + 4 by omega]
          rw [List.map_cons, List.map_nil, e]
          rfl) (by
          unfold runs_read.l1
          dsimp only
          rw [if_neg (by simp)]
          rfl)
        have this : loopO runs_read.l1 (((([] : Pg), (0 : Int)), (0 : Int), []), s, ((pageN s : Nat) : Int), ((pageN s : Nat) : Int), 0) = _ := this
        have hd : s.drop 126 = s.drop 126 := rfl
        rw [this, Option.bind_some]
        dsimp only
        rw [if_pos (by omega), rd1 s 126 (by omega), Option.bind_some]
        dsimp only
        rw [if_pos (by simp)]
        have hg : ([w2 s 126] : List Int).getD 0 0 = pageX s := rfl
        rw [hg]
        refine ⟨(pageR s, pageX s), ?_, fun _ => rfl⟩
        unfold pageOk
        rw [hdec, hz, Bool.true_and]
        by_cases hx : pageX s = 0
        · rw [if_neg (by simp [hx]), decide_eq_true hx]
          rfl
        · rw [if_pos (by simpa using hx), decide_eq_false hx, Bool.false_or]
          congr 2
          rw [Bool.eq_iff_iff]
          simp
          omega

/-! ### A card's runs are loaded -/

section
variable {n : Nat} {xs : List Blk} {w : Loo} (h : Disk 2 n xs w) (c u : Int) (p1 : Bool) (p2 : Int)
include h

def may2 (k : Card) : Bool := rightC k && decide (k.1 = 2)

theorem ro_s (k : Card) (hk : lenD k) : runs_open ((((xs, [], c, u), p1, p2), w), k) = some (if may2 k = true then ((2, (n : Int), 0), 0) else ((0, 0, 0), 1)) := by
  unfold runs_open may2
  dsimp only
  rw [right_is k hk, Option.bind_some]
  cases rightC k with
  | false => rw [if_neg (by decide), if_neg (by simp)]
  | true =>
    rw [if_pos (by decide), Bool.true_and]
    by_cases h2 : k.1 = 2
    · rw [if_neg (by simp [h2]), crown_s h, Option.bind_some, if_pos (decide_eq_true h2)]
    · rw [if_pos (by simpa using h2), if_neg (by simpa using h2)]

omit h in
theorem clone2 (l : Pg) (hl : l.length ≤ 1000000) : api_Span_2 l = some l := by
  unfold api_Span_2
  cases l with
  | nil =>
    rw [if_pos (show ([] : Pg).isEmpty = true from rfl), if_pos (room (by decide) (by decide))]
    unfold agree
    exact if_pos rfl
  | cons a l =>
    rw [if_neg (by simp), if_pos (room (by decide) (by simp at hl ⊢; omega))]
    rfl

/-- What a span of a file may be. -/
def okR (n : Nat) (r : Sp) : Bool := decide (r.1 + r.2.2 ≤ 120) && (ownI n r.2.1 && ownI n (r.2.1 + r.2.2 - 1))

theorem odd_s (r : Sp) (hr : okS r = true) : runs_load_1 (r, 2, (n : Int), 0) = some (!okR n r) := by
  have hb := okS_bounds hr
  unfold runs_load_1 okR
  dsimp only
  rw [wrap64 (by omega) (by omega)]
  by_cases h1 : r.1 + r.2.2 ≤ 120
  · rw [if_pos (by simpa using h1), decide_eq_true h1, owned_s h, Option.bind_some, Bool.true_and]
    cases ownI n r.2.1 with
    | false => rfl
    | true =>
      rw [if_pos (by decide), wrap64 (n := r.2.1 + r.2.2) (by omega) (by omega), wrap64 (by omega) (by omega), owned_s h]
      rfl
  · rw [if_neg (by simp; omega), decide_eq_false h1]
    rfl

theorem odds_s (l : Pg) (hl : l.length ≤ 1000000) (hr : rightSp l = true) : api_Span_4 (l, 2, (n : Int), 0) = some (!l.all (okR n)) := by
  have := any_loop (f := api_Span_3.l1) l (0, (0, 0)) (fun r => !okR n r) (fun i => (l, (2, (n : Int), 0), (l.length : Int), (i : Int))) (fun i hi => by
    have ho := List.all_eq_true.1 hr i (List.mem_range.2 hi)
    unfold okAt at ho
    rw [Bool.and_eq_true] at ho
    unfold api_Span_3.l1
    dsimp only
    rw [if_pos (by simpa using hi), if_pos (by omega), Int.toNat_natCast, show runs_load_1 (l.getD i (0, 0, 0), 2, (n : Int), 0) = _ from odd_s h _ ho.1, Option.bind_some, wrap_succ (by omega)]) (by
    unfold api_Span_3.l1
    dsimp only
    rw [if_neg (by simp)])
  unfold api_Span_4 api_Span_3
  dsimp only
  refine Eq.trans ?_ (this.trans ?_)
  · rfl
  · congr 1
    rw [Bool.eq_iff_iff]
    simp

/-- What is loaded of a card. -/
def loadR (g : Int → Blk) (n : Nat) (k : Card) : Option (Pg × List Int) :=
  (walk g n 130 k.2.2.2.2.2.2.2.1 [] k.2.2.2.2.2.2.2.2).bind fun x => if rightSp x.1 = true ∧ x.1.all (okR n) = true then some x else none

theorem load_loop : ∀ (f : Nat) (l : Pg) (acc : List Int) (nx : Int), 1 ≤ f → 122 ≤ f + l.length → l.length ≤ 1000 → acc.length + f ≤ 1000 →
    loopO runs_load_1x.l1 (((p1, p2), w, (c, u), xs, [], (2, (n : Int), 0), l, acc), nx) =
      some (match walk (getW xs w) n f l acc nx with
        | some x => .inl ((p1, p2), w, (c, u), xs, [], (2, (n : Int), 0), x.1, x.2)
        | none => .inr (((p1, p2), w, (c, u), xs, []), [], [], 15))
  | 0, _, _, _, hf, _, _, _ => by omega
  | f + 1, l, acc, nx, _, hl, hl2, ha => by
    rw [walk]
    by_cases h0 : nx = 0
    · rw [if_pos h0]
      refine loopO_inr ?_
      unfold runs_load_1x.l1
      dsimp only
      rw [if_neg (by simp [h0])]
    · rw [if_neg h0]
      by_cases h1 : ownI n nx = true ∧ l.length ≤ 120
      · rw [if_pos h1]
        have how := h1.1
        unfold ownI at how
        rw [decide_eq_true_eq] at how
        have hg := h.full.get h.wf (i := nx) (by omega)
        obtain ⟨p, q1, q2⟩ := read_p (getW xs w nx) hg
        have hrd : deal_Deal_Read ((((xs, [], c, u), p1, p2), w), nx) = some (getW xs w nx, 0) := by
          rw [read_d h.full.len, if_pos (there_own nx how)]
        by_cases h2 : pageOk (getW xs w nx) = true
        · rw [if_pos h2]
          rw [h2] at q1
          rw [q2 h2] at q1
          have hN : 1 ≤ pageN (getW xs w nx) ∧ pageN (getW xs w nx) ≤ 20 := by
            unfold pageOk at h2
            simp only [Bool.and_eq_true, decide_eq_true_eq] at h2
            exact h2.1.1
          have hlen : (pageR (getW xs w nx)).length = pageN (getW xs w nx) := by unfold pageR; simp
          have step : runs_load_1x.l1 (((p1, p2), w, (c, u), xs, [], (2, (n : Int), 0), l, acc), nx) = some (.inl (((p1, p2), w, (c, u), xs, [], (2, (n : Int), 0), l ++ pageR (getW xs w nx), acc ++ [nx]), pageX (getW xs w nx))) := by
            unfold runs_load_1x.l1
            dsimp only
            rw [if_pos (by simpa using h0), owned_s h, h1.1, Option.bind_some, if_pos (by decide), if_neg (by simp; omega), hrd, Option.bind_some]
            dsimp only
            rw [if_neg (by decide), q1, Option.bind_some]
            dsimp only
            rw [if_neg (by decide), if_pos (room (by decide) (by simp; omega)), if_pos (room (by decide) (by rw [hlen]; omega))]
          rw [loopO_inl step]
          exact load_loop f _ _ _ (by omega) (by rw [List.length_append, hlen]; omega) (by rw [List.length_append, hlen]; omega) (by simp; omega)
        · rw [if_neg h2]
          refine loopO_inr ?_
          have h3 : pageOk (getW xs w nx) = false := by simpa using h2
          rw [h3] at q1
          unfold runs_load_1x.l1
          dsimp only
          rw [if_pos (by simpa using h0), owned_s h, h1.1, Option.bind_some, if_pos (by decide), if_neg (by simp; omega), hrd, Option.bind_some]
          dsimp only
          rw [if_neg (by decide), q1, Option.bind_some]
          dsimp only
          rw [if_pos (by decide)]
      · rw [if_neg h1]
        refine loopO_inr ?_
        unfold runs_load_1x.l1
        dsimp only
        rw [if_pos (by simpa using h0), owned_s h, Option.bind_some]
        cases ho : ownI n nx with
        | false => rw [if_neg (by decide)]
        | true =>
          have : ¬ l.length ≤ 120 := fun q => h1 ⟨ho, q⟩
          rw [if_pos (by decide), if_pos (by simp; omega)]

theorem load_s (k : Card) (hk : lenD k) (hm : may2 k = true → k.2.2.2.2.2.2.2.1.length ≤ 3) : runs_load_1x (((p1, p2), w, (c, u), xs, []), k) =
    some (((p1, p2), w, (c, u), xs, []), if may2 k = true then (match loadR (getW xs w) n k with | some x => (x.1, x.2, (0 : Int)) | none => ([], [], (15 : Int))) else ([], [], (1 : Int))) := by
  unfold runs_load_1x
  dsimp only
  rw [ro_s h _ _ _ _ k hk, Option.bind_some]
  cases hmk : may2 k with
  | false => rfl
  | true =>
    have h3 := hm hmk
    rw [if_pos rfl, if_pos rfl]
    dsimp only
    rw [if_neg (by decide), clone2 _ (by omega), Option.bind_some, load_loop h c u p1 p2 130 _ [] _ (by omega) (by omega) (by omega) (by simp), Option.bind_some]
    unfold loadR
    cases hw : walk (getW xs w) n 130 k.2.2.2.2.2.2.2.1 [] k.2.2.2.2.2.2.2.2 with
    | none => rfl
    | some x =>
      have hwl := walk_len _ _ _ _ _ _ _ _ hw
      have hxl : x.1.length ≤ 1000 := by
        rcases hwl.2 with q | q
        · omega
        · omega
      dsimp only
      rw [Option.bind_some, rightSp_is _ (by omega), Option.bind_some]
      cases hr : rightSp x.1 with
      | false => rw [if_neg (by decide), if_neg (fun q => by cases q.1)]
      | true =>
        rw [if_pos (by decide), odds_s h _ (by omega) hr, Option.bind_some]
        cases ha : x.1.all (okR n) with
        | false => rw [if_pos (by decide), if_neg (fun q => by cases q.2)]
        | true => rw [if_neg (by decide), if_pos ⟨rfl, rfl⟩]
end

theorem may2_runs {k : Card} (h : may2 k = true) : k.1 = 2 ∧ rightC k = true ∧ k.2.2.2.2.2.2.2.1.length ≤ 3 ∧ rightSp k.2.2.2.2.2.2.2.1 = true ∧ (0 ≤ k.2.2.2.2.2.2.2.2 ∧ k.2.2.2.2.2.2.2.2 ≤ 65535) := by
  unfold may2 at h
  rw [Bool.and_eq_true, decide_eq_true_eq] at h
  have hz : k ≠ zeroC := fun e => by
    have := congrArg Prod.fst e
    rw [h.2] at this
    exact absurd this (by decide)
  obtain ⟨_, h2, h3, h4⟩ := right_2 h.1 hz (by omega)
  refine ⟨h.2, h.1, h4, h3, ?_⟩
  have h1 := h.1
  obtain ⟨c1, c2, c3, c4, c5, c6, c7, c8, c9⟩ := k
  unfold rightC at h1
  dsimp only at h1
  rw [decide_eq_false hz, Bool.false_or, Bool.and_eq_true] at h1
  have h5 := List.all_eq_true.1 h1.1 c9 (by simp)
  unfold smallI at h5
  rw [decide_eq_true_eq] at h5
  exact h5

end Go.Proofs.YtlbammfnkphajaaGreatDoor.Abs
