/- Runs: what is saved is loaded. -/
import Derived.Test.YtlbammfnkphajaaGreatDoorRnD
namespace Go.Proofs.YtlbammfnkphajaaGreatDoor.Abs
open Go
set_option linter.unusedVariables false
attribute [-simp] List.getD_eq_getElem?_getD

/-! ### Spans of a map of a disk -/

def entries (n : Nat) (m : List Int) : Prop := ∀ x ∈ m, x = 0 ∨ ownI n x = true

theorem entry {n : Nat} {m : List Int} (h : entries n m) (q : Nat) : m.getD q 0 = 0 ∨ ownI n (m.getD q 0) = true := by
  by_cases hq : q < m.length
  · rw [getD_lt hq]; exact h _ (List.getElem_mem hq)
  · left
    simp [List.getD, List.getElem?_eq_none (Nat.le_of_not_lt hq)]

theorem over_zero {m : List Int} (h : overM m = false) (q : Nat) (hq : 120 ≤ q) : m.getD q 0 = 0 := by
  by_cases hl : q < m.length
  · unfold overM at h
    rw [List.any_eq_false] at h
    have := h (m.getD q 0) (by
      rw [getD_lt hl]
      have : m[q] = (m.drop 120)[q - 120]'(by rw [List.length_drop]; omega) := by
        have e : 120 + (q - 120) = q := by omega
        simp only [List.getElem_drop, e]
      rw [this]
      exact List.getElem_mem _)
    simpa using this
  · simp [List.getD, List.getElem?_eq_none (Nat.le_of_not_lt hl)]

theorem val_in : ∀ {l : List Sp} {t : Sp} {q : Int}, Sn.Good l → t ∈ l → t.1 ≤ q → q - t.1 < t.2.2 → Sn.val l q = t.2.1 + (q - t.1)
  | s :: r, t, q, hg, ht, h1, h2 => by
    simp only [Sn.val]
    rcases List.mem_cons.1 ht with rfl | ht
    · rw [if_pos ⟨h1, h2⟩]
    · have hs := Sn.good_starts hg t ht
      rw [if_neg (by omega)]
      exact val_in hg.tail ht h1 h2

theorem clip_own {n : Nat} (hn : n ≤ 400) {x : Int} (h : x = 0 ∨ ownI n x = true) : Sn.clip x = x := by
  unfold Sn.clip
  rcases h with rfl | h
  · rfl
  · unfold ownI at h
    rw [decide_eq_true_eq] at h
    rw [if_pos (by omega)]

/-- The spans of a map. -/
def spS (m : List Int) : Pg := Sn.ofS m m.length

structure Spans (n : Nat) (m : List Int) (l : Pg) : Prop where
  good : Sn.Good l
  ends : Sn.Ends l 120
  val : ∀ q : Nat, Sn.val l q = m.getD q 0

theorem spS_is {n : Nat} (hn : n ≤ 400) {m : List Int} (hm : m.length ≤ 65536) (he : entries n m) (ho : overM m = false) : Spans n m (spS m) := by
  obtain ⟨h1, h2, h3⟩ := Sn.ofS_good m hm
  have hv : ∀ q : Nat, Sn.val (spS m) q = m.getD q 0 := fun q => by
    by_cases hq : q < m.length
    · exact (h3 q hq).trans (clip_own hn (entry he q))
    · rw [show m.getD q 0 = 0 by simp [List.getD, List.getElem?_eq_none (Nat.le_of_not_lt hq)]]
      exact Sn.val_past fun t ht => by have := h2 t ht; omega
  refine ⟨h1, fun t ht => ?_, hv⟩
  have hk := Sn.good_mem h1 t ht
  obtain ⟨o1, o2, o3, o4, o5, o6⟩ := hk
  refine Classical.byContradiction fun hc => ?_
  have hq := val_in (q := t.1 + t.2.2 - 1) h1 ht (by omega) (by omega)
  have h4 := hv (t.1 + t.2.2 - 1).toNat
  rw [show (((t.1 + t.2.2 - 1).toNat : Nat) : Int) = t.1 + t.2.2 - 1 by omega, show spS m = Sn.ofS m m.length from rfl, hq, over_zero ho _ (by omega)] at h4
  omega

theorem sn_ok {s : Sp} (h : Sn.okS s) : okS s = true := by
  obtain ⟨o1, o2, o3, o4, o5, o6⟩ := h
  unfold okS
  rw [decide_eq_true_eq]
  omega

theorem sn_next {a b : Sp} (h : Sn.nextOk a b) : nextOk a b = true := by
  unfold nextOk
  rw [decide_eq_true_eq]
  exact h

theorem sn_right {l : Pg} (h : Sn.Good l) : rightSp l = true := by
  unfold rightSp
  refine all_true fun k hk => ?_
  obtain ⟨h1, h2⟩ := (Sn.good_index l).1 h k hk
  unfold okAt
  have e1 : okS (l.getD k sp0) = true := sn_ok h1
  rw [e1, Bool.true_and]
  by_cases h0 : k = 0
  · rw [decide_eq_true h0]; rfl
  · have e2 : nextOk (l.getD (k - 1) sp0) (l.getD k sp0) = true := sn_next (h2 (by omega))
    rw [e2, Bool.or_true]

theorem sn_small {s : Sp} (h : Sn.okS s) : small s := by
  obtain ⟨o1, o2, o3, o4, o5, o6⟩ := h
  exact ⟨⟨by omega, by omega⟩, ⟨by omega, by omega⟩, ⟨by omega, by omega⟩⟩

theorem sp_okR {n : Nat} {m : List Int} {l : Pg} (h : Spans n m l) (he : entries n m) : l.all (okR n) = true := by
  rw [List.all_eq_true]
  intro t ht
  obtain ⟨o1, o2, o3, o4, o5, o6⟩ := Sn.good_mem h.good t ht
  have hen := h.ends t ht
  have a1 := val_in (q := t.1) h.good ht (by omega) (by omega)
  have a2 := val_in (q := t.1 + t.2.2 - 1) h.good ht (by omega) (by omega)
  have b1 := h.val t.1.toNat
  have b2 := h.val (t.1 + t.2.2 - 1).toNat
  rw [show ((t.1.toNat : Nat) : Int) = t.1 by omega, a1] at b1
  rw [show (((t.1 + t.2.2 - 1).toNat : Nat) : Int) = t.1 + t.2.2 - 1 by omega, a2] at b2
  have c1 := entry he t.1.toNat
  have c2 := entry he (t.1 + t.2.2 - 1).toNat
  rw [← b1] at c1
  rw [← b2] at c2
  have d1 := c1.resolve_left (by omega)
  have d2 := c2.resolve_left (by omega)
  unfold okR
  rw [decide_eq_true (by omega), Bool.true_and, Bool.and_eq_true]
  exact ⟨by rw [show t.2.1 + (t.1 - t.1) = t.2.1 by omega] at d1; exact d1, by rw [show t.2.1 + (t.1 + t.2.2 - 1 - t.1) = t.2.1 + t.2.2 - 1 by omega] at d2; exact d2⟩

theorem good_len : ∀ {l : Pg} {e : Int}, Sn.Good l → Sn.Ends l e → ∀ s ∈ l.head?, s.1 + (l.length : Int) ≤ e
  | [], _, _, _, s, hs => by simp at hs
  | [a], e, hg, he, s, hs => by
    simp only [List.head?_cons, Option.mem_def, Option.some.injEq] at hs
    subst hs
    have := he a List.mem_cons_self
    have hk := hg.head.2.2.1
    simp only [List.length_singleton]
    omega
  | a :: b :: r, e, hg, he, s, hs => by
    simp only [List.head?_cons, Option.mem_def, Option.some.injEq] at hs
    subst hs
    have h1 := good_len hg.tail (fun t ht => he t (List.mem_cons_of_mem _ ht)) b rfl
    have h2 := hg.2.1.1
    have hk := hg.head.2.2.1
    simp only [List.length_cons] at h1 ⊢
    omega

theorem sp_len {n : Nat} {m : List Int} {l : Pg} (h : Spans n m l) : l.length ≤ 120 := by
  cases l with
  | nil => exact Nat.zero_le _
  | cons a r =>
    have := good_len h.good h.ends a rfl
    have hk := h.good.head.1
    omega

/-- The map that is loaded: 120 pieces. -/
def wideS (m : List Int) : List Int := (List.range 120).map fun q => m.getD q 0

theorem map_s {n : Nat} {m : List Int} {l : Pg} (h : Spans n m l) : spans_Map (l, 120) = some (wideS m) := by
  have hl := sp_len h
  rw [Sn.Map_is l 120 (by omega) (fun k hk => by
    obtain ⟨o1, o2, o3, o4, o5, o6⟩ := ((Sn.good_index l).1 h.good k hk).1
    exact ⟨by omega, by omega, by omega⟩)]
  congr 1
  refine Sn.ext_getD ?_ fun q hq => ?_
  · rw [Sn.mapS_len]; simp [wideS]; decide
  · rw [Sn.mapS_len] at hq
    have hq' : q < 120 := hq
    rw [Sn.mapS_val h.good _ _ (Nat.le_refl _) q hq, List.take_length, h.val]
    simp [wideS, List.getD, hq']

/-! ### Pages are written -/

theorem writes_ok {n : Nat} {xs : List Blk} : ∀ (ps : List Pg) (bs : List Int) (w : Loo), Disk 2 n xs w → (∀ b ∈ bs, ownI n b = true) → bs.length = ps.length → bs.Nodup → (∀ p ∈ ps, p.length ≤ 20) →
    Disk 2 n xs (writesW w ps bs) ∧ mkW xs (writesW w ps bs) = mkW xs w ∧ (∀ j : Int, j ∉ bs → getW xs (writesW w ps bs) j = getW xs w j) ∧ laidP (getW xs (writesW w ps bs)) ps bs
  | [], [], w, h, _, _, _, _ => ⟨h, rfl, fun _ _ => rfl, trivial⟩
  | [], _ :: _, _, _, _, h, _, _ => by simp at h
  | _ :: _, [], _, _, _, h, _, _ => by simp at h
  | p :: ps, b :: bs, w, h, ho, hl, hn, hp => by
    have hr := h.room
    have hob := ho b List.mem_cons_self
    unfold ownI at hob
    rw [decide_eq_true_eq] at hob
    have hnd := List.nodup_cons.1 hn
    have hpl := pageB_len p (bs.headD 0) (hp p List.mem_cons_self)
    have hd := h.put (there_own b hob) (by omega) hpl
    obtain ⟨d1, d2, d3, d4⟩ := writes_ok ps bs (mp w b (pageB p (bs.headD 0))) hd (fun x hx => ho x (List.mem_cons_of_mem _ hx)) (by simpa using hl) hnd.2 (fun q hq => hp q (List.mem_cons_of_mem _ hq))
    rw [writesW]
    refine ⟨d1, ?_, fun j hj => ?_, ?_, d4⟩
    · rw [d2]
      unfold mkW
      rw [get_put, if_neg (by omega)]
    · rw [d3 j (fun q => hj (List.mem_cons_of_mem _ q)), get_put, if_neg (fun q => hj (by rw [q]; exact List.mem_cons_self))]
    · rw [d3 b hnd.1, get_put, if_pos rfl]

/-! ### A saved file -/

/-- A card's file on a disk: its spans, its blocks. -/
structure Filed (n : Nat) (xs : List Blk) (w : Loo) (k : Card) (l : Pg) (bs : List Int) : Prop where
  card : may2 k = true
  len : lenD k
  load : loadR (getW xs w) n k = some (l, bs)
  used : ∀ b ∈ bs, ownI n b = true ∧ isM (mkW xs w) b = true
  nodup : bs.Nodup
  few : bs.length ≤ 130

/-- The card that is given back. -/
def cardS (k : Card) (l : Pg) (b : Int) : Card := (k.1, k.2.1, k.2.2.1, k.2.2.2.1, k.2.2.2.2.1, k.2.2.2.2.2.1, k.2.2.2.2.2.2.1, l.take 3, b)

theorem cardS_right {n : Nat} {k : Card} (h : may2 k = true) {l : Pg} (hl : Sn.Good l) {b : Int} (hb : b = 0 ∨ (ownI n b = true ∧ 3 < l.length)) (hn : n ≤ 400) : may2 (cardS k l b) = true := by
  obtain ⟨h1, h2, h3, h4, h5⟩ := may2_runs h
  have hs : smallI b = true := by
    unfold smallI
    rw [decide_eq_true_eq]
    rcases hb with rfl | ⟨hb, _⟩
    · omega
    · unfold ownI at hb
      rw [decide_eq_true_eq] at hb
      omega
  have hz : k ≠ zeroC := fun e => by
    have := congrArg Prod.fst e
    rw [h1] at this
    exact absurd this (by decide)
  have hR : rightSp (l.take 3) = true := sn_right (Sn.good_take hl 3)
  obtain ⟨c1, c2, c3, c4, c5, c6, c7, c8, c9⟩ := k
  unfold may2 cardS
  unfold rightC at h2 ⊢
  dsimp only at h1 h2 ⊢
  subst h1
  rw [decide_eq_false hz, Bool.false_or, Bool.and_eq_true, Bool.or_eq_true] at h2
  obtain ⟨g1, g2⟩ := h2
  have g3 : headC (2, c2, c3, c4, c5, c6, c7, c8, c9) 15360 = true ∧ (c5.length = 0 ∧ c6 = 0 ∧ c7 = 0) := by
    rcases g2 with g2 | g2
    · simp at g2
    · simp only [Bool.and_eq_true, decide_eq_true_eq] at g2
      exact ⟨g2.2.1.1, g2.2.2⟩
  have hh : headC (2, c2, c3, c4, c5, c6, c7, l.take 3, b) 15360 = true := g3.1
  have ha : (c5 ++ [c6, c7, b]).all smallI = true := by
    rw [List.all_append] at g1 ⊢
    simp only [List.all_cons, List.all_nil, Bool.and_true, Bool.and_eq_true] at g1 ⊢
    exact ⟨g1.1, g1.2.1, g1.2.2.1, hs⟩
  have hc : (b == 0 || decide ((l.take 3).length = 3)) = true := by
    rcases hb with rfl | ⟨_, hb⟩
    · rfl
    · rw [decide_eq_true (by rw [List.length_take]; omega), Bool.or_true]
  rw [ha, hh, hR, hc, decide_eq_true (p := (l.take 3).length ≤ 3) (by rw [List.length_take]; omega), decide_eq_true (p := c5.length = 0 ∧ c6 = 0 ∧ c7 = 0) g3.2]
  simp

theorem cardS_len {k : Card} (h : lenD k) (l : Pg) (b : Int) : lenD (cardS k l b) := ⟨h.1, by
  unfold cardS
  dsimp only
  rw [List.length_take]
  omega⟩

/-- The disk behind a saving. -/
def saveW (xs : List Blk) (n : Nat) (w : Loo) (bs : List Int) (l : Pg) : Loo × List Int :=
  let t := takesW xs n (pagesS l).length (dropsW xs w bs)
  (writesW t.1 (pagesS l) t.2, t.2)

theorem pages_len (l : Pg) : (pagesS l).length = ((l.length - 3) + 19) / 20 := by
  unfold pagesS
  rw [chunks_count _ _ (Nat.le_refl _), List.length_drop]

theorem save_ok {n : Nat} {xs : List Blk} {w : Loo} (h : Disk 2 n xs w) {k : Card} {l0 : Pg} {bs : List Int} (hf : Filed n xs w k l0 bs) {m : List Int} {l : Pg} (hs : Spans n m l) (he : entries n m) (hfree : (pagesS l).length ≤ freeS n (mkW xs w) + bs.length) :
    Disk 2 n xs (saveW xs n w bs l).1 ∧ Filed n xs (saveW xs n w bs l).1 (cardS k l ((saveW xs n w bs l).2.headD 0)) l (saveW xs n w bs l).2 ∧ (saveW xs n w bs l).2.length = (pagesS l).length ∧
      freeS n (mkW xs (saveW xs n w bs l).1) + (pagesS l).length = freeS n (mkW xs w) + bs.length ∧
      (∀ q : Int, isM (mkW xs (saveW xs n w bs l).1) q = if q ∈ (saveW xs n w bs l).2 then true else if q ∈ bs then false else isM (mkW xs w) q) ∧
      (∀ b ∈ (saveW xs n w bs l).2, b ∈ bs ∨ isM (mkW xs w) b = false) ∧
      (∀ j : Int, j ≠ 42 → j ∉ (saveW xs n w bs l).2 → getW xs (saveW xs n w bs l).1 j = getW xs w j) := by
  have hr := h.room
  have hl := sp_len hs
  obtain ⟨d1, d2, d3⟩ := drops_ok bs w h hf.used hf.nodup
  obtain ⟨t1, t2, t3, t4, t5, t6, t7⟩ := takes_ok (pagesS l).length (dropsW xs w bs) d1 (by rw [d3]; exact hfree)
  have e : saveW xs n w bs l = (writesW (takesW xs n (pagesS l).length (dropsW xs w bs)).1 (pagesS l) (takesW xs n (pagesS l).length (dropsW xs w bs)).2, (takesW xs n (pagesS l).length (dropsW xs w bs)).2) := rfl
  rw [e]
  generalize takesW xs n (pagesS l).length (dropsW xs w bs) = t at t1 t2 t3 t4 t5 t6 t7
  dsimp only
  have hsm : ∀ r ∈ l, small r := fun r hr => sn_small (Sn.good_mem hs.good r hr)
  have hg := chunks_good (l.drop 3).length (l.drop 3) (Nat.le_refl _) (fun r hr => hsm r (List.mem_of_mem_drop hr))
  have h20 : ∀ p ∈ pagesS l, p.length ≤ 20 := by
    have key : ∀ (ps : List Pg), goodP ps → ∀ p ∈ ps, p.length ≤ 20 := by
      intro ps
      induction ps with
      | nil => intro _ p hp; cases hp
      | cons a ps ih =>
        intro hg p hp
        cases ps with
        | nil =>
          rcases List.mem_cons.1 hp with rfl | hp
          · exact hg.2.1
          · cases hp
        | cons b ps =>
          rcases List.mem_cons.1 hp with rfl | hp
          · have := hg.1.1; omega
          · exact ih hg.2 p hp
    exact key _ hg
  obtain ⟨w1, w2, w3, w4⟩ := writes_ok (pagesS l) t.2 t.1 t1 (fun b hb => (t4 b hb).1) t2 t3 h20
  have hflat : (pagesS l).flatten = l.drop 3 := chunks_flat 20 (by decide) _ _ (Nat.le_refl _)
  have hplen := pages_len l
  have hisM : ∀ q : Int, isM (mkW xs (writesW t.1 (pagesS l) t.2)) q = if q ∈ t.2 then true else if q ∈ bs then false else isM (mkW xs w) q := fun q => by
    rw [w2, t5, d2]
  refine ⟨w1, ⟨cardS_right hf.card hs.good ?_ hr.2, cardS_len hf.len _ _, ?_, fun b hb => ⟨(t4 b hb).1, by rw [hisM, if_pos hb]⟩, t3, by omega⟩, t2, by rw [w2, t6, d3], hisM, fun b hb => ?_, fun j j1 j2 => ?_⟩
  · cases hb : t.2 with
    | nil => exact .inl rfl
    | cons b r =>
      right
      refine ⟨(t4 b (by rw [hb]; exact List.mem_cons_self)).1, ?_⟩
      have : t.2.length = (pagesS l).length := t2
      rw [hb, List.length_cons] at this
      omega
  · have hw := walk_laid (getW xs (writesW t.1 (pagesS l) t.2)) n (by omega) (pagesS l) t.2 130 (l.take 3) [] w4 hg (fun b hb => (t4 b hb).1) (by omega) (by rw [hflat, List.take_append_drop]; exact hl)
    rw [hflat, List.take_append_drop, List.nil_append] at hw
    unfold loadR cardS
    dsimp only
    rw [hw, Option.bind_some, if_pos ⟨sn_right hs.good, sp_okR hs he⟩]
  · have := (t4 b hb).2
    rw [d2] at this
    by_cases hbs : b ∈ bs
    · exact .inl hbs
    · rw [if_neg hbs] at this; exact .inr this
  · rw [w3 j j2, t7 j j1 j2, drops_get j j1]

theorem fresh_filed {n : Nat} {xs : List Blk} {w : Loo} : Filed n xs w fresh [] [] :=
  ⟨by decide +kernel, ⟨by decide, by decide⟩, rfl, (fun b hb => by cases hb), List.nodup_nil, by decide⟩

section
variable {n : Nat} {xs : List Blk} {w : Loo} (h : Disk 2 n xs w) (c u : Int) (p1 : Bool) (p2 : Int)
include h

theorem save_s {k : Card} {l0 : Pg} {bs : List Int} (hf : Filed n xs w k l0 bs) (m : List Int) (hm : m.length ≤ 60000) (he : entries n m) :
    runs_Save (((p1, p2), w, (c, u), xs, []), k, m) = some (
      if overM m = true then (((p1, p2), w, (c, u), xs, []), zeroC, 12)
      else if freeS n (mkW xs w) + bs.length < (pagesS (spS m)).length then (((p1, p2), w, (c, u), xs, []), zeroC, 10)
      else (((p1, p2), (saveW xs n w bs (spS m)).1, (c, u), xs, []), cardS k (spS m) ((saveW xs n w bs (spS m)).2.headD 0), 0)) := by
  have hr := h.room
  have hcard := may2_runs hf.card
  have hload := load_s h c u p1 p2 k hf.len (fun _ => hcard.2.2.1)
  rw [hf.card, if_pos rfl, hf.load] at hload
  have hodd : oddM n m = false := by
    unfold oddM
    rw [List.any_eq_false]
    intro x hx
    rcases he x hx with rfl | q
    · simp
    · rw [q]; simp
  have hfl : freeS n (mkW xs w) ≤ n := by unfold freeS; omega
  have hspl : (spS m).length ≤ m.length := Sn.ofS_len m m.length
  have hpl := pages_len (spS m)
  have hfew := hf.few
  unfold runs_Save
  dsimp only
  rw [hload, Option.bind_some]
  dsimp only
  rw [if_neg (by decide), ro_s h c u p1 p2 k hf.len, hf.card, if_pos rfl, Option.bind_some]
  dsimp only
  have hmay := may_s h m (by omega)
  rw [hodd, if_neg (c := false = true) (by decide)] at hmay
  cases ho : overM m with
  | true =>
    rw [ho, if_pos rfl] at hmay
    rw [hmay, Option.bind_some, if_pos (by decide), if_pos rfl]
    rfl
  | false =>
    rw [ho, if_neg (c := false = true) (by decide)] at hmay
    rw [hmay, Option.bind_some, if_neg (c := ((0 : Int) != 0) = true) (by decide), if_neg (c := false = true) (by decide), Sn.Of_is m (by omega), Option.bind_some, show Sn.ofS m m.length = spS m from rfl, pages_s _ (by omega), Option.bind_some, free_s h, Option.bind_some]
    dsimp only
    rw [if_neg (by decide), freeS_int, wrap64 (by omega) (by omega), List.length_map]
    by_cases hfree : freeS n (mkW xs w) + bs.length < (pagesS (spS m)).length
    · rw [if_pos hfree, if_pos (by rw [decide_eq_true_eq]; omega)]
      rfl
    · rw [if_neg hfree, if_neg (by rw [decide_eq_true_eq]; omega)]
      have hs := spS_is hr.2 (by omega) he ho
      have hl := sp_len hs
      have hso := save_ok h hf hs he (by omega)
      obtain ⟨d1, d2, d3⟩ := drops_ok bs w h hf.used hf.nodup
      obtain ⟨t1, t2, t3, t4, t5, t6, t7⟩ := takes_ok (pagesS (spS m)).length (dropsW xs w bs) d1 (by rw [d3]; omega)
      have hsm : ∀ r ∈ spS m, small r := fun r hr => sn_small (Sn.good_mem hs.good r hr)
      have hg := chunks_good ((spS m).drop 3).length ((spS m).drop 3) (Nat.le_refl _) (fun r hr => hsm r (List.mem_of_mem_drop hr))
      have hmem : ∀ (ps : List Pg), goodP ps → ∀ p ∈ ps, p.length ≤ 20 ∧ ∀ r ∈ p, small r := by
        intro ps
        induction ps with
        | nil => intro _ p hp; cases hp
        | cons a ps ih =>
          intro hg p hp
          cases ps with
          | nil =>
            rcases List.mem_cons.1 hp with rfl | hp
            · exact hg.2
            · cases hp
          | cons b ps =>
            rcases List.mem_cons.1 hp with rfl | hp
            · exact ⟨by have := hg.1.1; omega, hg.1.2⟩
            · exact ih hg.2 p hp
      have hdl := drops_loop (c := c) (u := u) (p1 := p1) (p2 := p2) (spS m) ((pagesS (spS m)).map fun p => (p, (0 : Int))) k bs bs [] w h rfl (by omega) hf.used hf.nodup
      have hdl : loopO runs_Save.l1 (((p1, p2), w, (c, u), xs, [], k, 0, 0, 0, 0, [], 0, 0, [], 0), spS m, (pagesS (spS m)).map fun p => (p, (0 : Int)), bs, (bs.length : Int), 0) = _ := hdl
      rw [hdl, Option.bind_some]
      obtain ⟨k1, k2, k3, k4, k5, k6, k7, k8, k9⟩ := k
      unfold zeroC
      dsimp only
      rw [List.length_map, takes_s d1 c u p1 p2 _ (by rw [d3]; omega) (by omega), Option.bind_some]
      dsimp only
      rw [if_neg (by decide)]
      have hwl := writes_loop (c := c) (u := u) (p1 := p1) (p2 := p2) (spS m) (k1, k2, k3, k4, k5, k6, k7, k8, k9) ((pagesS (spS m)).map fun p => (p, (0 : Int))) ((takesW xs n (pagesS (spS m)).length (dropsW xs w bs)).2 ++ [0]) (pagesS (spS m)) (takesW xs n (pagesS (spS m)).length (dropsW xs w bs)).2 0 _ t1 (fun b hb => (t4 b hb).1) t2 (hmem _ hg) (by rw [List.length_map]; omega) rfl rfl (by rw [List.length_map]; omega)
      have hwl : loopO runs_Save.l2 (((p1, p2), (takesW xs n (pagesS (spS m)).length (dropsW xs w bs)).1, (c, u), xs, [], (k1, k2, k3, k4, k5, k6, k7, k8, k9), 0, 0, 0, 0, [], 0, 0, [], 0), spS m, (takesW xs n (pagesS (spS m)).length (dropsW xs w bs)).2 ++ [0], (pagesS (spS m)).map fun p => (p, (0 : Int)), (((pagesS (spS m)).map fun p => (p, (0 : Int))).length : Int), 0) = _ := hwl
      rw [List.length_map] at hwl
      rw [hwl, Option.bind_some]
      dsimp only
      rw [min3P, if_pos (by omega), Int.toNat_natCast, take3]
      have hcl : api_Span_1 ((spS m).take 3) = some ((spS m).take 3) := by
        unfold api_Span_1
        cases hq : (spS m).take 3 with
        | nil =>
          rw [if_pos (show ([] : Pg).isEmpty = true from rfl), if_pos (room (by decide) (by decide))]
          unfold agree
          exact if_pos rfl
        | cons a r =>
          have := congrArg List.length hq
          rw [List.length_take, List.length_cons] at this
          rw [if_neg (by simp), if_pos (room (by decide) (by simp; omega))]
          rfl
      rw [hcl, Option.bind_some, if_pos (by simp)]
      have hhd : ((takesW xs n (pagesS (spS m)).length (dropsW xs w bs)).2 ++ [0]).getD 0 0 = (takesW xs n (pagesS (spS m)).length (dropsW xs w bs)).2.headD 0 := by
        cases (takesW xs n (pagesS (spS m)).length (dropsW xs w bs)).2 <;> rfl
      rw [hhd]
      rfl

theorem load1_s {k : Card} {l : Pg} {bs : List Int} (hf : Filed n xs w k l bs) {m : List Int} (hs : Spans n m l) : runs_Load_1 (((p1, p2), w, (c, u), xs, []), k) = some (((p1, p2), w, (c, u), xs, []), wideS m, 0) := by
  have hcard := may2_runs hf.card
  have hload := load_s h c u p1 p2 k hf.len (fun _ => hcard.2.2.1)
  rw [hf.card, if_pos rfl, hf.load] at hload
  unfold runs_Load_1
  dsimp only
  rw [hload, Option.bind_some]
  dsimp only
  rw [if_neg (by decide), map_s hs, Option.bind_some]

theorem lists_s {k : Card} {l : Pg} {bs : List Int} (hf : Filed n xs w k l bs) : runs_Lists_1 (((p1, p2), w, (c, u), xs, []), k) = some (((p1, p2), w, (c, u), xs, []), bs, 0) := by
  have hcard := may2_runs hf.card
  have hload := load_s h c u p1 p2 k hf.len (fun _ => hcard.2.2.1)
  rw [hf.card, if_pos rfl, hf.load] at hload
  unfold runs_Lists_1
  dsimp only
  rw [hload, Option.bind_some]
end

end Go.Proofs.YtlbammfnkphajaaGreatDoor.Abs
