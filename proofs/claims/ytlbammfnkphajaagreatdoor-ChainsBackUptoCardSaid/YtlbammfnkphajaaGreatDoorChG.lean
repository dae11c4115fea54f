/- Chains: a saved file. -/
import Derived.Test.YtlbammfnkphajaaGreatDoorChF
namespace Go.Proofs.YtlbammfnkphajaaGreatDoor.Abs
open Go
set_option linter.unusedVariables false
attribute [-simp] List.getD_eq_getElem?_getD

/-! ### Rungs make the map -/

theorem wid_get (k : Nat) (l : List Int) (q : Nat) (h : q < (wid k l).length) : (wid k l)[q] = l.getD q 0 := by simp [wid]

theorem wid_self {k : Nat} {l : List Int} (h : l.length = k) : wid k l = l := by
  refine List.ext_getElem (by rw [wid_len, h]) fun q h1 h2 => ?_
  rw [wid_get, getD_lt h2]

theorem wid_nil (k : Nat) : wid k [] = List.replicate k 0 := by
  refine List.ext_getElem (by rw [wid_len, List.length_replicate]) fun q h1 h2 => ?_
  rw [wid_get, List.getElem_replicate]
  rfl

theorem wid_lst {l : List Int} (h : l.length = 8) : wid 8 (lst l) = l := by
  unfold lst
  cases hany : l.any fun x => x != 0 with
  | true => rw [if_pos rfl, wid_self h]
  | false =>
    rw [if_neg (by decide), wid_nil]
    refine (List.eq_replicate_iff.2 ⟨h, fun x hx => ?_⟩).symm
    rw [List.any_eq_false] at hany
    simpa using hany x hx

theorem rDD_get (m : List Int) (i : Nat) (hi : i < 8) : (rDD m).getD i [] = lst (row m (12 + 8 * i)) := by
  have hr : (rRows m).getD i [] = lst (row m (12 + 8 * i)) := by
    unfold rRows
    rw [getD_lt (by simpa using hi), List.getElem_map, List.getElem_range]
  unfold rDD
  cases hany : (rRows m).any fun l => !l.isEmpty with
  | true => rw [if_pos rfl, hr]
  | false =>
    rw [if_neg (by decide)]
    rw [List.any_eq_false] at hany
    have := hany ((rRows m).getD i []) (by rw [getD_lt (by simpa [rRows] using hi)]; exact List.getElem_mem _)
    rw [hr] at this
    have e : lst (row m (12 + 8 * i)) = [] := by simpa using this
    rw [e]
    rfl

theorem all76 (f : Nat → Int) : ((List.range 4).map f ++ (List.range 8).map fun j => f (4 + j)) ++ ((List.range 8).flatMap fun i => (List.range 8).map fun j => f (12 + 8 * i + j)) = (List.range 76).map f := by kernel_rfl

theorem rung_back (m : List Int) : mapR (wid 4 m) (rS m) (rDD m) = wid 76 m := by
  unfold mapR
  have h1 : (List.range 8).flatMap (fun k => wid 8 ((rDD m).getD k [])) = (List.range 8).flatMap fun i => row m (12 + 8 * i) := by
    rw [List.flatMap_def, List.flatMap_def]
    congr 1
    refine List.map_congr_left fun i hi => ?_
    rw [rDD_get m i (List.mem_range.1 hi), wid_lst (row_len _ _)]
  rw [h1, wid_self (wid_len 4 m), show rS m = lst (row m 4) from rfl, wid_lst (row_len _ _)]
  exact all76 fun q => m.getD q 0

/-! ### What is written -/

/-- Lists are written to new blocks. -/
def tailW (xs : List Blk) (n : Nat) (w : Loo) (s : List Int) (dd : List (List Int)) : Loo × Int × Int × List Int :=
  if (!dd.isEmpty) = true then
    match firstF (mkW xs (layL xs n w s).1) n with
    | some a => (mp (laysL xs n (takeW xs (layL xs n w s).1 a) dd).1 (a : Int) (ladB (laysL xs n (takeW xs (layL xs n w s).1 a) dd).2), (layL xs n w s).2, (a : Int), (nz [(layL xs n w s).2] ++ [(a : Int)]) ++ nz (laysL xs n (takeW xs (layL xs n w s).1 a) dd).2)
    | none => ((layL xs n w s).1, (layL xs n w s).2, 0, [])
  else ((layL xs n w s).1, (layL xs n w s).2, 0, nz [(layL xs n w s).2])

/-- Lists of lists that may be written. -/
def goodD (n : Nat) (dd : List (List Int)) : Prop := dd = [] ∨ (dd.length = 8 ∧ 0 < cntL dd ∧ ∀ l ∈ dd, goodL n l)

theorem nz_mem {b : Int} {bs : List Int} (h : b ∈ bs) (h0 : b ≠ 0) : b ∈ nz bs := List.mem_filter.2 ⟨h, by simpa using h0⟩

theorem laid_odd {g : Int → Blk} {n : Nat} : ∀ {ls : List (List Int)} {bs : List Int}, laidL g n ls bs → oddM n bs = false ∧ ((bs.any fun x => x != 0) = decide (0 < cntL ls))
  | [], [], _ => ⟨rfl, rfl⟩
  | [], _ :: _, h => h.elim
  | _ :: _, [], h => h.elim
  | l :: ls, b :: bs, h => by
    obtain ⟨h1, h2⟩ := laid_odd h.2
    have hodd : oddM n (b :: bs) = ((b != 0 && !ownI n b) || oddM n bs) := rfl
    rw [hodd, h1, List.any_cons, h2]
    rcases h.1 with ⟨rfl, rfl⟩ | ⟨hl, ho, _⟩
    · refine ⟨rfl, ?_⟩
      unfold cntL
      rw [List.filter_cons_of_neg (by simp)]
      rfl
    · have hb := own_ne ho
      rw [ho]
      refine ⟨by simp, ?_⟩
      unfold cntL
      rw [List.filter_cons_of_pos (by simpa using hl)]
      simp [hb]

theorem tail_ok {n : Nat} {xs : List Blk} {w : Loo} (h : Disk 1 n xs w) {s : List Int} {dd : List (List Int)} (hs : goodL n s) (hd : goodD n dd) (hf : nbS s dd ≤ freeS n (mkW xs w)) :
    Grown n xs w (tailW xs n w s dd).1 (tailW xs n w s dd).2.2.2 ∧ (tailW xs n w s dd).2.2.2.length = nbS s dd ∧
      (∀ k : Card, oddM n k.2.2.2.2.1 = false → k.2.2.2.2.2.1 = (tailW xs n w s dd).2.1 → k.2.2.2.2.2.2.1 = (tailW xs n w s dd).2.2.1 → rgS (getW xs (tailW xs n w s dd).1) n k = ((false, (tailW xs n w s dd).2.2.2), s, dd)) ∧
      ((tailW xs n w s dd).2.1 = 0 ∨ ownI n (tailW xs n w s dd).2.1 = true) ∧ ((tailW xs n w s dd).2.2.1 = 0 ∨ ownI n (tailW xs n w s dd).2.2.1 = true) := by
  have hr := h.room
  have hc1 : (if (!s.isEmpty) = true then 1 else 0) = cntL [s] := by
    unfold cntL
    by_cases e : (!s.isEmpty) = true
    · rw [if_pos e, List.filter_cons_of_pos (p := fun l : List Int => !l.isEmpty) e]; rfl
    · rw [if_neg e, List.filter_cons_of_neg (p := fun l : List Int => !l.isEmpty) e]; rfl
  unfold nbS at hf ⊢
  rw [hc1] at hf ⊢
  have h0 : s = [] ∨ 0 < freeS n (mkW xs w) := by
    by_cases e : s = []
    · exact .inl e
    · right
      have : cntL [s] = 1 := by unfold cntL; rw [List.filter_cons_of_pos (by simpa using e)]; rfl
      omega
  obtain ⟨g1, a1⟩ := put_ok h s (hs.small hr.2) h0
  have hz : (nz [(layL xs n w s).2]).length = cntL [s] := (laid_count (g := getW xs (layL xs n w s).1) (n := n) (ls := [s]) (bs := [(layL xs n w s).2]) ⟨a1, trivial⟩).1
  have hfree := g1.free
  have hb0 : (layL xs n w s).2 = 0 ∨ ownI n (layL xs n w s).2 = true := by
    rcases a1 with a1 | a1
    · exact .inl a1.2
    · exact .inr a1.2.1
  by_cases hdd : dd = []
  · subst hdd
    have e : tailW xs n w s [] = ((layL xs n w s).1, (layL xs n w s).2, 0, nz [(layL xs n w s).2]) := rfl
    rw [e]
    refine ⟨g1, hz, fun k k1 k2 k3 => ?_, hb0, .inl rfl⟩
    dsimp only at k2 k3 ⊢
    unfold rgS
    rw [k2, k3, k1, ld_back hr.2 a1 hs []]
    dsimp only
    unfold ldS
    rw [if_pos (.inl rfl)]
    rfl
  · obtain ⟨d1, d2, d3⟩ := hd.resolve_left hdd
    have hne : (!dd.isEmpty) = true := by simpa using hdd
    rw [if_pos hne] at hf ⊢
    obtain ⟨a, ha, x1, x2, x3⟩ := firstF_some (m := mkW xs (layL xs n w s).1) (n := n) (by omega)
    have gt := Grown.take g1.disk x1 x2 x3
    have hft := gt.free
    rw [List.length_singleton] at hft
    obtain ⟨g3, l3⟩ := puts_ok dd (takeW xs (layL xs n w s).1 a) gt.disk (fun l hl => (d3 l hl).small hr.2) (by omega)
    have e : tailW xs n w s dd = (mp (laysL xs n (takeW xs (layL xs n w s).1 a) dd).1 (a : Int) (ladB (laysL xs n (takeW xs (layL xs n w s).1 a) dd).2), (layL xs n w s).2, (a : Int), (nz [(layL xs n w s).2] ++ [(a : Int)]) ++ nz (laysL xs n (takeW xs (layL xs n w s).1 a) dd).2) := by
      unfold tailW
      rw [if_pos hne, ha]
    rw [e]
    clear e
    generalize laysL xs n (takeW xs (layL xs n w s).1 a) dd = q at g3 l3
    obtain ⟨c1, c2⟩ := laid_count l3
    obtain ⟨o1, o2⟩ := laid_odd l3
    rw [decide_eq_true d2] at o2
    have hq8 : q.2.length = 8 := by rw [c2, d1]
    have hgq : goodL n q.2 := .inr ⟨hq8, o2, o1⟩
    have hsq : smallL q.2 := ⟨hq8, odd_small hr.2 o1⟩
    have hao : ownI n (a : Int) = true := by unfold ownI; rw [decide_eq_true_eq]; omega
    have gp := (gt.trans g3).write (b := (a : Int)) (List.mem_append.2 (.inl (List.mem_singleton.2 rfl))) (ladB_len hsq)
    have g := ((g1.trans gt).trans g3).write (b := (a : Int)) (List.mem_append.2 (.inl (List.mem_append.2 (.inr (List.mem_singleton.2 rfl))))) (ladB_len hsq)
    dsimp only
    refine ⟨g, ?_, fun k k1 k2 k3 => ?_, hb0, .inr hao⟩
    · rw [List.length_append, List.length_append, hz, c1, List.length_singleton]
    · have f1 : At (getW xs (mp q.1 (a : Int) (ladB q.2))) n s (layL xs n w s).2 := a1.frame fun hb => by
        have hmem := nz_mem (List.mem_singleton.2 rfl) hb
        have ho := own_bounds (g1.own _ hmem).1
        refine gp.rest _ (by omega) fun hm => ?_
        have := (gp.own _ hm).2
        rw [g1.used, if_pos hmem] at this
        cases this
      have f2 : At (getW xs (mp q.1 (a : Int) (ladB q.2))) n q.2 (a : Int) := .inr ⟨fun e => by rw [e] at hq8; simp at hq8, hao, by rw [get_put, if_pos rfl]⟩
      have f3 : laidL (getW xs (mp q.1 (a : Int) (ladB q.2))) n dd q.2 := l3.frame fun b hb hb0 => by
        have hmem := nz_mem hb hb0
        rw [get_put, if_neg fun e2 => ?_]
        have := (g3.own _ hmem).2
        rw [gt.used, e2, if_pos (List.mem_singleton.2 rfl)] at this
        cases this
      unfold rgS
      rw [k2, k3, k1, ld_back hr.2 f1 hs []]
      dsimp only
      rw [ld_back hr.2 f2 hgq ([] ++ nz [(layL xs n w s).2])]
      dsimp only
      rw [lds_back hr.2 dd q.2 _ f3 d3]
      have hza : nz [(a : Int)] = [(a : Int)] := by
        unfold nz
        rw [List.filter_cons_of_pos (by simp; omega)]
        rfl
      rw [hza]
      rfl

/-! ### A saved file -/

def entries (n : Nat) (m : List Int) : Prop := ∀ x ∈ m, x = 0 ∨ ownI n x = true

theorem entry {n : Nat} {m : List Int} (h : entries n m) (q : Nat) : m.getD q 0 = 0 ∨ ownI n (m.getD q 0) = true := by
  by_cases hq : q < m.length
  · rw [getD_lt hq]; exact h _ (List.getElem_mem hq)
  · left
    simp [List.getD, List.getElem?_eq_none (Nat.le_of_not_lt hq)]

theorem ent_odd {n : Nat} {m : List Int} (h : entries n m) : oddM n m = false := by
  unfold oddM
  rw [List.any_eq_false]
  intro x hx
  rcases h x hx with rfl | q
  · simp
  · rw [q]; simp

theorem ent_rng {n : Nat} (hn : n ≤ 400) {m : List Int} (h : entries n m) : rngM m = false := by
  unfold rngM
  rw [List.any_eq_false]
  intro x hx
  rcases h x hx with rfl | q
  · simp
  · have := own_bounds q
    simp
    omega

theorem ent_row {n : Nat} {m : List Int} (h : entries n m) (a : Nat) : entries n (row m a) := by
  intro x hx
  unfold row at hx
  obtain ⟨j, _, rfl⟩ := List.mem_map.1 hx
  exact entry h _

theorem ent_wid {n : Nat} {m : List Int} (h : entries n m) (k : Nat) : entries n (wid k m) := by
  intro x hx
  unfold wid at hx
  obtain ⟨j, _, rfl⟩ := List.mem_map.1 hx
  exact entry h _

theorem lst_good {n : Nat} {l : List Int} (h : entries n l) (hl : l.length = 8) : goodL n (lst l) := by
  unfold lst
  cases hany : l.any fun x => x != 0 with
  | true => rw [if_pos rfl]; exact .inr ⟨hl, hany, ent_odd h⟩
  | false => rw [if_neg (by decide)]; exact .inl rfl

theorem rDD_good {n : Nat} {m : List Int} (h : entries n m) : goodD n (rDD m) := by
  unfold rDD
  cases hany : (rRows m).any fun l => !l.isEmpty with
  | false => rw [if_neg (by decide)]; exact .inl rfl
  | true =>
    rw [if_pos rfl]
    refine .inr ⟨by simp [rRows], ?_, fun l hl => ?_⟩
    · obtain ⟨l, h1, h2⟩ := List.any_eq_true.1 hany
      unfold cntL
      exact List.length_pos_of_mem (List.mem_filter.2 ⟨h1, h2⟩)
    · unfold rRows at hl
      obtain ⟨i, _, rfl⟩ := List.mem_map.1 hl
      exact lst_good (ent_row h _) (row_len _ _)

/-- How many lists a map asks. -/
def nbM (m : List Int) : Nat := nbS (rS m) (rDD m)

theorem nbM_le (m : List Int) : nbM m ≤ 10 := by
  unfold nbM nbS
  have h1 := cntL_le (rDD m)
  have h2 : (rDD m).length ≤ 8 := by
    unfold rDD
    split
    · simp [rRows]
    · simp
  split <;> split <;> omega

/-- A card's file on a disk: its map, its lists' blocks. -/
structure Filed (n : Nat) (xs : List Blk) (w : Loo) (k : Card) (m : List Int) (bs : List Int) : Prop where
  card : may1 k = true
  len : lenD k
  load : loadR (getW xs w) n k = some (m, bs)
  used : ∀ b ∈ bs, ownI n b = true ∧ isM (mkW xs w) b = true
  nodup : bs.Nodup
  few : bs.length ≤ 10

/-- The card that is given back. -/
def cardS (k : Card) (m : List Int) (s d : Int) : Card := (k.1, k.2.1, k.2.2.1, k.2.2.2.1, wid 4 m, s, d, k.2.2.2.2.2.2.2.1, k.2.2.2.2.2.2.2.2)

theorem own_smallI {n : Nat} (hn : n ≤ 400) {b : Int} (h : b = 0 ∨ ownI n b = true) : smallI b = true := by
  unfold smallI
  rw [decide_eq_true_eq]
  rcases h with rfl | h
  · omega
  · have := own_bounds h
    omega

theorem may1_parts {k : Card} (h : may1 k = true) : k.1 = 1 ∧ rightC k = true ∧ headC k 9728 = true ∧ k.2.2.2.2.1.length = 4 ∧ k.2.2.2.2.2.2.2.1.length = 0 ∧ k.2.2.2.2.2.2.2.2 = 0 := by
  unfold may1 at h
  rw [Bool.and_eq_true, decide_eq_true_eq] at h
  obtain ⟨h1, h2⟩ := h
  refine ⟨h2, h1, ?_⟩
  unfold rightC at h1
  rw [Bool.or_eq_true] at h1
  rcases h1 with q | q
  · rw [decide_eq_true_eq] at q
    rw [q] at h2
    exact absurd h2 (by decide)
  · simp only [Bool.and_eq_true, Bool.or_eq_true, decide_eq_true_eq, beq_iff_eq, h2] at q
    rcases q.2 with q | q
    · exact ⟨q.2.1, q.2.2⟩
    · omega

theorem cardS_right {n : Nat} (hn : n ≤ 400) {k : Card} (h : may1 k = true) {m : List Int} (hm : entries n m) {s d : Int} (hs : s = 0 ∨ ownI n s = true) (hd : d = 0 ∨ ownI n d = true) : may1 (cardS k m s d) = true := by
  obtain ⟨h1, h2, h3, h4, h5, h6⟩ := may1_parts h
  obtain ⟨c1, c2, c3, c4, c5, c6, c7, c8, c9⟩ := k
  dsimp only at h1 h4 h5 h6
  subst h1
  unfold may1 cardS rightC
  dsimp only
  have hh : headC (1, c2, c3, c4, wid 4 m, s, d, c8, c9) 9728 = true := h3
  have ha : (wid 4 m ++ [s, d, c9]).all smallI = true := by
    rw [List.all_append, Bool.and_eq_true]
    refine ⟨List.all_eq_true.2 fun x hx => own_smallI hn (ent_wid hm 4 x hx), ?_⟩
    simp only [List.all_cons, List.all_nil, Bool.and_true, Bool.and_eq_true]
    exact ⟨own_smallI hn hs, own_smallI hn hd, by rw [h6]; decide⟩
  rw [ha, hh, decide_eq_true (p := (wid 4 m).length = 4 ∧ c8.length = 0 ∧ c9 = 0) ⟨wid_len 4 m, h5, h6⟩]
  simp

theorem cardS_len {k : Card} (h : lenD k) (m : List Int) (s d : Int) : lenD (cardS k m s d) := ⟨by
  unfold cardS
  dsimp only
  rw [wid_len]
  decide, h.2⟩

/-- The disk behind a saving. -/
def saveW (xs : List Blk) (n : Nat) (w : Loo) (bs m : List Int) : Loo × Int × Int × List Int := tailW xs n (dropsW xs w bs) (rS m) (rDD m)

theorem save_ok {n : Nat} {xs : List Blk} {w : Loo} (h : Disk 1 n xs w) {k : Card} {m0 : List Int} {bs : List Int} (hf : Filed n xs w k m0 bs) {m : List Int} (he : entries n m) (hfree : nbM m ≤ freeS n (mkW xs w) + bs.length) :
    Disk 1 n xs (saveW xs n w bs m).1 ∧ Filed n xs (saveW xs n w bs m).1 (cardS k m (saveW xs n w bs m).2.1 (saveW xs n w bs m).2.2.1) (wid 76 m) (saveW xs n w bs m).2.2.2 ∧ (saveW xs n w bs m).2.2.2.length = nbM m ∧
      freeS n (mkW xs (saveW xs n w bs m).1) + nbM m = freeS n (mkW xs w) + bs.length ∧
      (∀ q : Int, isM (mkW xs (saveW xs n w bs m).1) q = if q ∈ (saveW xs n w bs m).2.2.2 then true else if q ∈ bs then false else isM (mkW xs w) q) ∧
      (∀ b ∈ (saveW xs n w bs m).2.2.2, b ∈ bs ∨ isM (mkW xs w) b = false) ∧
      (∀ j : Int, j ≠ 42 → j ∉ (saveW xs n w bs m).2.2.2 → getW xs (saveW xs n w bs m).1 j = getW xs w j) := by
  have hr := h.room
  obtain ⟨d1, d2, d3⟩ := drops_ok bs w h hf.used hf.nodup
  obtain ⟨g, t1, t2, t3, t4⟩ := tail_ok d1 (s := rS m) (dd := rDD m) (lst_good (ent_row he 4) (row_len _ _)) (rDD_good he) (by rw [d3]; exact hfree)
  have e : saveW xs n w bs m = tailW xs n (dropsW xs w bs) (rS m) (rDD m) := rfl
  rw [e]
  generalize tailW xs n (dropsW xs w bs) (rS m) (rDD m) = t at g t1 t2 t3 t4
  have hnb := nbM_le m
  have t1 : t.2.2.2.length = nbM m := t1
  have hused : ∀ q : Int, isM (mkW xs t.1) q = if q ∈ t.2.2.2 then true else if q ∈ bs then false else isM (mkW xs w) q := fun q => by rw [g.used, d2]
  have hl := g.free
  refine ⟨g.disk, ⟨cardS_right hr.2 hf.card he t3 t4, cardS_len hf.len _ _ _, ?_, fun b hb => ⟨(g.own b hb).1, by rw [hused, if_pos hb]⟩, g.nodup, by omega⟩, t1, by rw [t1] at hl; omega, hused, fun b hb => ?_, fun j j1 j2 => ?_⟩
  · have hrg := t2 (cardS k m t.2.1 t.2.2.1) (ent_odd (ent_wid he 4)) rfl rfl
    unfold loadR
    rw [hrg]
    dsimp only
    rw [if_neg (by decide)]
    rw [show (cardS k m t.2.1 t.2.2.1).2.2.2.2.1 = wid 4 m from rfl, rung_back]
  · have := (g.own b hb).2
    rw [d2] at this
    by_cases hbs : b ∈ bs
    · exact .inl hbs
    · rw [if_neg hbs] at this; exact .inr this
  · rw [g.rest j j1 j2, drops_get j j1]

end Go.Proofs.YtlbammfnkphajaaGreatDoor.Abs
