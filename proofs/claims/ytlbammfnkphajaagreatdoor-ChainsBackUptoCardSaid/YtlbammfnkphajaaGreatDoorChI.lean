/- Chains: the laws' helpers; a deal lives; what is odd. -/
import Derived.Test.YtlbammfnkphajaaGreatDoorChH
namespace Go.Proofs.YtlbammfnkphajaaGreatDoor.Abs
open Go
set_option linter.unusedVariables false
attribute [-simp] List.getD_eq_getElem?_getD

theorem loop_inv {σ τ : Type} {f : σ → Option (σ ⊕ τ)} (P : Nat → σ → Prop) {n : Nat} (hs : ∀ i s, i < n → P i s → ∃ s', f s = some (.inl s') ∧ P (i + 1) s') (s0 : σ) (h0 : P 0 s0) : ∃ s, P n s ∧ loopO f s0 = loopO f s := by
  have : ∀ k, k ≤ n → ∃ s, P k s ∧ loopO f s0 = loopO f s := by
    intro k
    induction k with
    | zero => intro _; exact ⟨s0, h0, rfl⟩
    | succ k ih =>
      intro hk
      obtain ⟨s, p, e⟩ := ih (by omega)
      obtain ⟨s', e', p'⟩ := hs k s (by omega) p
      exact ⟨s', p', by rw [e, loopO_inl e']⟩
  exact this n (Nat.le_refl _)

theorem bulk_card (c : Card) (h : bulk yC c ≤ 1048576) : lenD c := by
  have h1 := bulk_ints c.2.2.2.2.1
  have h2 := bulk_structs (.pair I (.pair I I)) c.2.2.2.2.2.2.2.1
  have e : bulk yC c = bulk I c.1 + (bulk I c.2.1 + (bulk I c.2.2.1 + (bulk I c.2.2.2.1 + (bulk (.sl I) c.2.2.2.2.1 + (bulk I c.2.2.2.2.2.1 + (bulk I c.2.2.2.2.2.2.1 + (bulk (.sl (.st (.pair I (.pair I I)))) c.2.2.2.2.2.2.2.1 + bulk I c.2.2.2.2.2.2.2.2))))))) + 1 := rfl
  change c.2.2.2.2.1.length < bulk (.sl I) c.2.2.2.2.1 at h1
  change c.2.2.2.2.2.2.2.1.length < bulk (.sl (.st (.pair I (.pair I I)))) c.2.2.2.2.2.2.2.1 at h2
  constructor <;> omega

theorem sum_len1 {α : Type} (f : α → Nat) (hf : ∀ a, 1 ≤ f a) : ∀ l : List α, l.length ≤ (l.map f).sum
  | [] => Nat.zero_le _
  | a :: l => by
    have := sum_len1 f hf l
    have := hf a
    rw [List.map_cons, List.sum_cons, List.length_cons]
    omega
theorem bulk_lists (l : List (List Int)) (h : bulk (.sl (.sl I)) l ≤ 1048576) : l.length ≤ 1048576 := by
  have h2 : bulk (.sl (.sl I)) l = (l.map (bulk (.sl I))).sum + 1 := rfl
  have := sum_len1 (bulk (.sl I)) (fun (a : List Int) => by
    have := bulk_ints a
    change a.length < bulk (.sl I) a at this
    omega) l
  omega
theorem bulk_blks (l : List Blk) (h : bulk (.sl .str) l ≤ 1048576) : l.length ≤ 1048576 := by
  have h2 : bulk (.sl .str) l = (l.map (bulk .str)).sum + 1 := rfl
  have := sum_len1 (bulk .str) (fun (a : Blk) => by
    have : bulk .str a = a.length + 1 := rfl
    omega) l
  omega
theorem mem_lists {l : List (List Int)} (h : bulk (.sl (.sl I)) l ≤ 1048576) {a : List Int} (ha : a ∈ l) : a.length ≤ 1048576 := by
  have h2 : bulk (.sl (.sl I)) l = (l.map (bulk (.sl I))).sum + 1 := rfl
  have h3 := bulk_ints a
  change a.length < bulk (.sl I) a at h3
  have h4 : ∀ (l : List (List Int)), a ∈ l → bulk (.sl I) a ≤ (l.map (bulk (.sl I))).sum := by
    intro l
    induction l with
    | nil => intro h; cases h
    | cons b l ih =>
      intro h
      rw [List.map_cons, List.sum_cons]
      rcases List.mem_cons.1 h with rfl | h
      · omega
      · have := ih h; omega
  have := h4 l ha
  omega

/-! ### What is put inside, what is made wide -/

def inS (n : Nat) (x : Int) : Int := if (x != 0) = true then IntKind.i64.wrap (51 + IntKind.i64.wrap (Int.tmod (IntKind.u64.wrap x) (IntKind.u64.wrap (IntKind.i64.wrap ((n : Int) - 51))))) else 0
def insideS (n : Nat) (m : List Int) : List Int := (m.take 200).map (inS n)

theorem in_own {n : Nat} (hr : 64 ≤ n ∧ n ≤ 400) (x : Int) : inS n x = 0 ∨ ownI n (inS n x) = true := by
  unfold inS
  split
  · right
    have e1 : IntKind.u64.wrap (IntKind.i64.wrap ((n : Int) - 51)) = ((n - 51 : Nat) : Int) := by
      rw [wrap64 (by omega) (by omega)]
      simp only [IntKind.wrap, IntKind.signed, IntKind.bits]
      simp
      omega
    obtain ⟨M, hM, hw⟩ := tmod_nat x (n - 51) (by omega) (by omega)
    rw [e1, hw, wrap64 (by omega) (by omega)]
    unfold ownI
    rw [decide_eq_true_eq]
    omega
  · exact .inl rfl

theorem inside_len (n : Nat) (m : List Int) : (insideS n m).length ≤ 200 := by
  unfold insideS
  rw [List.length_map, List.length_take]; omega
theorem inside_entries {n : Nat} (hr : 64 ≤ n ∧ n ≤ 400) (m : List Int) : entries n (insideS n m) := by
  intro x hx
  unfold insideS at hx
  obtain ⟨y, _, rfl⟩ := List.mem_map.1 hx
  exact in_own hr y

theorem inside_s {n : Nat} (hr : 64 ≤ n ∧ n ≤ 400) (m : List Int) (hm : m.length ≤ 1048576) : lw14_inside (m, (n : Int)) = some (insideS n m) := by
  have hz : ¬ IntKind.u64.wrap (IntKind.i64.wrap ((n : Int) - 51)) = 0 := by
    rw [wrap64 (by omega) (by omega)]
    simp only [IntKind.wrap, IntKind.signed, IntKind.bits]
    simp
    omega
  have hloop := loop_run (f := lw14_inside.l1) (fun i => ((m.take i).map (inS n), m, (n : Int), (i : Int))) (n := min 200 m.length) (r := insideS n m) (fun i hi => by
    have hi2 : i < m.length := by omega
    unfold lw14_inside.l1
    dsimp only
    rw [if_pos (by simpa using hi2), if_pos (by rw [decide_eq_true_eq]; omega), if_pos (by omega), Int.toNat_natCast, List.take_succ_eq_append_getElem hi2, List.map_append, getD_lt hi2]
    have hl : ((m.take i).map (inS n)).length = i := by rw [List.length_map, List.length_take]; omega
    by_cases h0 : (m[i] != 0) = true
    · rw [if_pos h0, if_pos (by omega), if_neg hz, if_pos (room (by decide) (by rw [hl, List.length_singleton]; omega)), wrap_succ (by omega)]
      rw [List.map_cons, List.map_nil, inS, if_pos h0]
    · rw [if_neg h0, if_pos (room (by decide) (by rw [hl, List.length_singleton]; omega)), wrap_succ (by omega)]
      rw [List.map_cons, List.map_nil, inS, if_neg h0]) (by
    have e : (m.take (min 200 m.length)).map (inS n) = insideS n m := by
      unfold insideS
      rw [← List.take_take, List.take_length]
    rw [e]
    unfold lw14_inside.l1
    dsimp only
    by_cases hl : m.length ≤ 200
    · rw [if_neg (by rw [decide_eq_true_eq]; omega)]
    · rw [if_pos (by rw [decide_eq_true_eq]; omega), if_neg (by rw [decide_eq_true_eq]; omega)])
  have hloop : loopO lw14_inside.l1 ([], m, (n : Int), 0) = _ := hloop
  unfold lw14_inside
  dsimp only
  rw [hloop, Option.bind_some]

theorem wide_s (m : List Int) (hm : m.length ≤ 1048576) : lw14_wide m = some (wid 76 m) := by
  have hst : ∀ i, i < 76 → i < m.length → ((List.range 76).map fun q => if q < i then m.getD q 0 else 0).set i (m.getD i 0) = (List.range 76).map fun q => if q < i + 1 then m.getD q 0 else 0 := fun i hi _ => by
    refine List.ext_getElem (by simp) fun q h1 h2 => ?_
    rw [List.getElem_set]
    simp only [List.getElem_map, List.getElem_range]
    by_cases e : i = q
    · subst e
      rw [if_pos rfl, if_pos (by omega)]
    · rw [if_neg e]
      by_cases h : q < i
      · rw [if_pos h, if_pos (by omega)]
      · rw [if_neg h, if_neg (by omega)]
  have hloop := loop_run (f := lw14_wide.l1) (fun i => ((List.range 76).map fun q => if q < i then m.getD q 0 else 0, m, (i : Int))) (n := min 76 m.length) (r := wid 76 m) (fun i hi => by
    unfold lw14_wide.l1
    dsimp only
    rw [if_pos (by rw [decide_eq_true_eq]; omega), if_pos (by rw [decide_eq_true_eq]; simp; omega), if_pos (by omega), if_pos (by simp; omega), Int.toNat_natCast, hst i (by omega) (by omega), wrap_succ (by omega)]) (by
    have e : ((List.range 76).map fun q => if q < min 76 m.length then m.getD q 0 else 0) = wid 76 m := by
      unfold wid
      refine List.map_congr_left fun q hq => ?_
      have := List.mem_range.1 hq
      by_cases h : q < min 76 m.length
      · rw [if_pos h]
      · rw [if_neg h]
        simp [List.getD, List.getElem?_eq_none (show m.length ≤ q by omega)]
    rw [e]
    unfold lw14_wide.l1
    dsimp only
    by_cases hl : m.length ≤ 76
    · rw [if_neg (by rw [decide_eq_true_eq]; omega)]
    · rw [if_pos (by rw [decide_eq_true_eq]; omega), if_neg (by rw [decide_eq_true_eq]; simp [wid]; omega)])
  have h0 : ((List.range 76).map fun q => if q < 0 then m.getD q 0 else 0) = List.replicate 76 (0 : Int) := by
    refine List.ext_getElem (by simp) fun q h1 h2 => ?_
    rw [List.getElem_map, List.getElem_replicate, if_neg (Nat.not_lt_zero _)]
  have hloop : loopO lw14_wide.l1 (List.replicate 76 0, m, 0) = some (wid 76 m) := by rw [← h0]; exact hloop
  unfold lw14_wide
  rw [if_pos (by decide), hloop, Option.bind_some]


/-! ### A deal lives -/

def m0 : List Int := [60, 0, 61, 0, 0, 62]

theorem first_new {n : Nat} (hr : 64 ≤ n ∧ n ≤ 400) : firstF (mkW (newX n) (w0 n)) n = some 51 := by
  rw [new_mk]
  refine runS_some (by omega) ((isRun_iff ..).2 ⟨Nat.le_refl _, by omega, fun q q1 q2 => ?_⟩) fun j hj => ?_
  · unfold marksB
    rw [marksU_is n 1024 (Nat.le_refl _) q (by omega), decide_eq_false (by omega)]
  · cases h : isRun (marksB n) 51 n 1 j with
    | false => rfl
    | true =>
      have := ((isRun_iff ..).1 h).1
      omega

theorem layL_some {n : Nat} {xs : List Blk} {w : Loo} {l : List Int} (hl : l ≠ []) {a : Nat} (ha : firstF (mkW xs w) n = some a) : layL xs n w l = (mp (takeW xs w a) (a : Int) (ladB l), (a : Int)) := by
  unfold layL
  rw [if_neg (by simpa using hl), ha]

theorem saveW_single (xs : List Blk) (n : Nat) (w : Loo) (m : List Int) (h : rDD m = []) : (saveW xs n w [] m).2.1 = (layL xs n w (rS m)).2 := by
  unfold saveW tailW
  rw [h]
  rfl
theorem cardS_single (k : Card) (m : List Int) (s d : Int) : (cardS k m s d).2.2.2.2.2.1 = s := rfl

theorem lives_block : (saveW (newX 100) 100 (w0 100) [] m0).2.1 = ((51 : Nat) : Int) := by
  have hr : 64 ≤ 100 ∧ 100 ≤ 400 := by decide
  have hS : rS m0 = [0, 62, 0, 0, 0, 0, 0, 0] := by decide +kernel
  rw [saveW_single _ _ _ _ (by decide +kernel), layL_some (by rw [hS]; exact List.cons_ne_nil _ _) (first_new hr)]

theorem lives_ents : entries 100 m0 := by unfold entries m0 ownI; decide
theorem lives_nb : nbM m0 = 1 := by decide +kernel
theorem lives_0 : (wid 76 m0).getD 0 0 = 60 := by decide +kernel
theorem lives_2 : (wid 76 m0).getD 2 0 = 61 := by decide +kernel
theorem lives_5 : (wid 76 m0).getD 5 0 = 62 := by decide +kernel

set_option maxRecDepth 100000 in
theorem lives_is : lw14_lives () = some true := by
  have hr : 64 ≤ 100 ∧ 100 ≤ 400 := by decide
  have hd := new_disk hr
  have hf := fresh_filed (n := 100) (xs := newX 100) (w := w0 100)
  have he := lives_ents
  have ho : overM m0 = false := by decide
  have hfree := new_free hr
  have hp := lives_nb
  have hsv := save_s hd 0 (-1) false 0 hf m0 (by decide) he
  rw [ho, if_neg (by decide), if_neg (by rw [hp, hfree]; decide)] at hsv
  obtain ⟨s1, s2, _⟩ := save_ok hd hf he (by rw [hp, hfree]; decide)
  have hb : (cardS fresh m0 (saveW (newX 100) 100 (w0 100) [] m0).2.1 (saveW (newX 100) 100 (w0 100) [] m0).2.2.1).2.2.2.2.2.1 = ((51 : Nat) : Int) := (cardS_single _ _ _ _).trans lives_block
  have hld := load1_s s1 0 (-1) false 0 s2
  have w0' := lives_0
  have w2' := lives_2
  have w5' := lives_5
  have hl := wid_len 76 m0
  have hsv : chains_Save (((false, 0), w0 100, (0, -1), newX 100, []), fresh, [60, 0, 61, 0, 0, 62]) = _ := hsv
  generalize cardS fresh m0 (saveW (newX 100) 100 (w0 100) [] m0).2.1 (saveW (newX 100) 100 (w0 100) [] m0).2.2.1 = K at hsv hld hb
  generalize (saveW (newX 100) 100 (w0 100) [] m0).1 = W at hsv hld
  generalize wid 76 m0 = M at hld w0' w2' w5' hl
  unfold lw14_lives
  rw [show (100 : Int) = ((100 : Nat) : Int) from rfl, begin_is hr, Option.bind_some]
  dsimp only
  rw [fresh_is, Option.bind_some, hsv, Option.bind_some]
  generalize newX 100 = X at hld
  dsimp only
  rw [hld, Option.bind_some]
  dsimp only
  rw [if_pos (by decide), if_pos (by decide), hl, if_pos (by decide), if_pos (by decide), w0', if_pos (by decide), if_pos (by decide), w2', if_pos (by decide), if_pos (by decide), w5', if_pos (by decide), hb]
  rfl

/-! ### Whatever lies on a disk -/

theorem rdL_odd {g : Int → Blk} {n : Nat} {b : Int} {l : List Int} (h : rdL g n b = some l) : oddM n l = false := by
  unfold rdL at h
  split at h
  · rename_i c
    cases h
    have := c.2
    unfold lstOk at this
    simp only [Bool.and_eq_true, Bool.not_eq_true'] at this
    exact this.2.2
  · cases h

theorem ldS_odd (g : Int → Blk) (n : Nat) (st : Bool × List Int) (b : Int) : oddM n (ldS g n st b).2 = false := by
  unfold ldS
  split
  · rfl
  · unfold afterL
    cases h : rdL g n b with
    | none => rfl
    | some l => exact rdL_odd h

theorem ldsS_odd (g : Int → Blk) (n : Nat) : ∀ (bs : List Int) (st : Bool × List Int), ∀ l ∈ (ldsS g n st bs).2, oddM n l = false
  | [], _, l, h => by cases h
  | b :: bs, st, l, h => by
    rw [ldsS] at h
    rcases List.mem_cons.1 h with rfl | h
    · exact ldS_odd g n st b
    · exact ldsS_odd g n bs _ l h

theorem odd_ent {n : Nat} {l : List Int} (h : oddM n l = false) : entries n l := by
  intro x hx
  unfold oddM at h
  rw [List.any_eq_false] at h
  have := h x hx
  simp only [Bool.and_eq_true, bne_iff_ne, ne_eq, Bool.not_eq_true', not_and, Bool.not_eq_false] at this
  by_cases h0 : x = 0
  · exact .inl h0
  · exact .inr (this h0)

theorem load_ent {g : Int → Blk} {n : Nat} {k : Card} {m bs : List Int} (h : loadR g n k = some (m, bs)) : entries n m ∧ m.length = 76 ∧ bs.length ≤ 10 := by
  unfold loadR at h
  split at h
  · cases h
  · rename_i hc
    have hc : (rgS g n k).1.1 = false := ff hc
    cases h
    have h1 : oddM n k.2.2.2.2.1 = false := by
      unfold rgS at hc
      dsimp only at hc
      rw [Bool.or_eq_false_iff] at hc
      exact hc.1
    have h2 : oddM n (rgS g n k).2.1 = false := ldS_odd g n _ _
    have h3 : ∀ l ∈ (rgS g n k).2.2, oddM n l = false := ldsS_odd g n _ _
    have h4 : (rgS g n k).1.2.length ≤ 10 := by
      unfold rgS
      dsimp only
      have a := ldS_len g n (false, []) k.2.2.2.2.2.1
      have b := ldS_len g n (ldS g n (false, []) k.2.2.2.2.2.1).1 k.2.2.2.2.2.2.1
      have d := ldsS_len g n (ldS g n (ldS g n (false, []) k.2.2.2.2.2.1).1 k.2.2.2.2.2.2.1).2 (ldS g n (ldS g n (false, []) k.2.2.2.2.2.1).1 k.2.2.2.2.2.2.1).1
      have a2 : (ldS g n (false, []) k.2.2.2.2.2.1).1.2.length ≤ 0 + 1 := a.2
      omega
    refine ⟨?_, ?_, h4⟩
    · intro x hx
      unfold mapR at hx
      rcases List.mem_append.1 hx with hx | hx
      · rcases List.mem_append.1 hx with hx | hx
        · exact ent_wid (odd_ent h1) 4 x hx
        · exact ent_wid (odd_ent h2) 8 x hx
      · obtain ⟨i, _, hx⟩ := List.mem_flatMap.1 hx
        refine ent_wid (odd_ent ?_) 8 x hx
        by_cases hi : i < (rgS g n k).2.2.length
        · rw [getD_lt hi]
          exact h3 _ (List.getElem_mem hi)
        · rw [show (rgS g n k).2.2.getD i [] = [] by simp [List.getD, List.getElem?_eq_none (Nat.le_of_not_lt hi)]]
          rfl
    · unfold mapR
      have hl : ∀ j : Nat, ((List.range j).flatMap fun q => wid 8 ((rgS g n k).2.2.getD q [])).length = 8 * j := fun j => by
        induction j with
        | zero => rfl
        | succ j ih => rw [List.range_succ, List.flatMap_append, List.length_append, ih]; simp [wid_len]; omega
      rw [List.length_append, List.length_append, hl, wid_len, wid_len]

theorem lw14_ChainsOdd_row (x0 : Card) (x1 : List Blk) (w0' : wfD yC x0) (w1 : wfD (.sl .str) x1) (hb : bulk yC x0 + bulk (.sl .str) x1 ≤ 1048576) : lw14_ChainsOdd (x0, x1) = some true := by
  have hr : 64 ≤ 100 ∧ 100 ≤ 400 := by decide
  have hlen := bulk_card x0 (by omega)
  have hx1 := bulk_blks x1 (by omega)
  obtain ⟨s, ⟨w, hw, hs⟩, hloop⟩ := loop_inv (f := lw14_ChainsOdd.l1) (fun i s => ∃ w, Disk 1 100 (newX 100) w ∧ s = ((x0, (false, 0), w, (0, -1), newX 100, []), x1, (i : Int))) (n := min 49 x1.length) (by
    rintro i s hi ⟨w, hw, rfl⟩
    have hthere : thereS 100 (51 + (i : Int)) = true := there_own _ (by omega)
    have ew : IntKind.i64.wrap (51 + (i : Int)) = 51 + (i : Int) := wrap64 (by omega) (by omega)
    refine ⟨((x0, (false, 0), (if thereS 100 (51 + (i : Int)) = true ∧ (x1.getD i []).length ≤ 128 then mp w (51 + (i : Int)) (wholeS (x1.getD i [])) else w), (0, -1), newX 100, []), x1, ((i + 1 : Nat) : Int)), ?_, _, ?_, rfl⟩
    · obtain ⟨k1, k2, k3, k4, k5, k6, k7, k8, k9⟩ := x0
      unfold lw14_ChainsOdd.l1
      dsimp only
      rw [if_pos (by rw [decide_eq_true_eq]; omega), if_pos (by rw [decide_eq_true_eq]; omega), if_pos (by omega), ew, Int.toNat_natCast, write_d hw.full.len, Option.bind_some]
      dsimp only
      rw [wrap_succ (by omega)]
    · split
      · exact hw.put hthere (by omega) (wholeS_len _)
      · exact hw) ((x0, (false, 0), w0 100, (0, -1), newX 100, []), x1, 0) ⟨_, new_disk hr, rfl⟩
  have hend : lw14_ChainsOdd.l1 ((x0, (false, 0), w, (0, -1), newX 100, []), x1, ((min 49 x1.length : Nat) : Int)) = some (.inr (x0, (false, 0), w, (0, -1), newX 100, [])) := by
    obtain ⟨k1, k2, k3, k4, k5, k6, k7, k8, k9⟩ := x0
    unfold lw14_ChainsOdd.l1
    dsimp only
    by_cases hl : x1.length ≤ 49
    · rw [if_neg (by rw [decide_eq_true_eq]; omega)]
    · rw [if_pos (by rw [decide_eq_true_eq]; omega), if_neg (by rw [decide_eq_true_eq]; omega)]
  unfold lw14_ChainsOdd
  dsimp only
  rw [lives_is, Option.bind_some, if_neg (by decide), show (100 : Int) = ((100 : Nat) : Int) from rfl, begin_is hr, Option.bind_some]
  dsimp only
  rw [hloop, hs, loopO_inr hend, Option.bind_some]
  have hload := load_s hw 0 (-1) false 0 x0 hlen
  by_cases hm : may1 x0 = true
  · rw [if_pos hm] at hload
    have hright := (may1_parts hm).2.1
    cases hl : loadR (getW (newX 100) w) 100 x0 with
    | none =>
      rw [hl] at hload
      obtain ⟨k1, k2, k3, k4, k5, k6, k7, k8, k9⟩ := x0
      dsimp only at hload ⊢
      unfold chains_Load_1 chains_Lists_1
      dsimp only
      rw [hload, Option.bind_some]
      dsimp only
      rw [Option.bind_some]
      dsimp only
      rw [hload, Option.bind_some, Option.bind_some]
      rfl
    | some y =>
      obtain ⟨m, bs⟩ := y
      rw [hl] at hload
      obtain ⟨e1, e2, e3⟩ := load_ent hl
      have hR := refRight_c x0 hlen.c
      rw [hright] at hR
      obtain ⟨k1, k2, k3, k4, k5, k6, k7, k8, k9⟩ := x0
      dsimp only at hload ⊢
      unfold chains_Load_1 chains_Lists_1
      dsimp only
      rw [hload, Option.bind_some]
      unfold ldM
      dsimp only
      rw [Option.bind_some]
      dsimp only
      rw [hload, Option.bind_some, Option.bind_some]
      unfold ldM
      dsimp only
      rw [if_neg (by decide)]
      have hloop2 := loop_run (f := lw14_ChainsOdd.l2) (fun i => ((k1, k2, k3, k4, k5, k6, k7, k8, k9), m, bs, 0, (i : Int))) (n := m.length) (r := .inl ((k1, k2, k3, k4, k5, k6, k7, k8, k9), m, bs, 0)) (fun i hi => by
        have hx := entry e1 i
        unfold lw14_ChainsOdd.l2
        dsimp only
        rw [if_pos (by simpa using hi), if_pos (by omega), Int.toNat_natCast]
        by_cases h0 : (m.getD i 0 != 0) = true
        · have ho := own_bounds (hx.resolve_left (by simpa using h0))
          rw [if_pos h0, if_pos (by omega), if_pos (by rw [decide_eq_false_iff_not]; omega), if_pos (by omega), if_neg (by rw [decide_eq_true_eq]; omega), wrap_succ (by omega)]
        · rw [if_neg h0, wrap_succ (by omega)]) (by
        unfold lw14_ChainsOdd.l2
        dsimp only
        rw [if_neg (by simp)])
      have hloop2 : loopO lw14_ChainsOdd.l2 ((k1, k2, k3, k4, k5, k6, k7, k8, k9), m, bs, 0, 0) = _ := hloop2
      rw [hloop2, Option.bind_some]
      dsimp only
      rw [e2, if_pos (by decide), if_pos (by decide), if_pos (by rw [decide_eq_true_eq]; omega), hR, Option.bind_some]
  · rw [if_neg hm] at hload
    obtain ⟨k1, k2, k3, k4, k5, k6, k7, k8, k9⟩ := x0
    dsimp only at hload ⊢
    unfold chains_Load_1 chains_Lists_1
    dsimp only
    rw [hload, Option.bind_some]
    dsimp only
    rw [Option.bind_some]
    dsimp only
    rw [hload, Option.bind_some, Option.bind_some]
    rfl

end Go.Proofs.YtlbammfnkphajaaGreatDoor.Abs
