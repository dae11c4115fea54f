/- Chains: lists of pointers are read; rungs; a card's map. -/
import Derived.Test.YtlbammfnkphajaaGreatDoorChB
namespace Go.Proofs.YtlbammfnkphajaaGreatDoor.Abs
open Go
set_option linter.unusedVariables false
attribute [-simp] List.getD_eq_getElem?_getD

theorem any_loop {α σ : Type} {f : σ → Option (σ ⊕ (Unit ⊕ Int))} (l : List α) (d : α) (p : α → Bool) (st : Nat → σ) (hs : ∀ i, i < l.length → f (st i) = if p (l.getD i d) = true then some (.inr (.inr (i : Int))) else some (.inl (st (i + 1)))) (he : f (st l.length) = some (.inr (.inl ()))) :
    ((loopO f (st 0)).bind fun r => match r with | .inl _ => some (-1 : Int) | .inr t => some t).bind (fun r7 => some (decide (r7 ≥ 0))) = some (l.any p) := by
  obtain ⟨j, _, hj, hb, hst, hrun⟩ := loop_first (f := f) st (fun i => p (l.getD i d)) (n := l.length) (r := fun i => if i < l.length then .inr (i : Int) else .inl ()) l.length 0 (by omega) (fun i _ hi => by
    rw [hs i hi]
    by_cases q : p (l.getD i d) = true
    · rw [if_pos q, if_pos q, if_pos hi]
    · rw [if_neg q, if_neg q]) (by rw [he, if_neg (by omega)])
  rw [hrun, Option.bind_some]
  by_cases hjl : j < l.length
  · rw [if_pos hjl]
    have h1 := hst hjl
    have : l.any p = true := List.any_eq_true.2 ⟨l[j], List.getElem_mem hjl, by rw [getD_lt hjl] at h1; exact h1⟩
    rw [this]
    simp
  · rw [if_neg hjl]
    have : l.any p = false := by
      rw [List.any_eq_false]
      intro x hx
      obtain ⟨i, hi, rfl⟩ := List.getElem_of_mem hx
      have := hb i (Nat.zero_le _) (by omega)
      rw [getD_lt hi] at this
      rw [this]
      decide
    rw [this]
    rfl

/-! ### Wide lists -/

def wid (k : Nat) (l : List Int) : List Int := (List.range k).map fun q => l.getD q 0
theorem wid_len (k : Nat) (l : List Int) : (wid k l).length = k := by simp [wid]

theorem copy_wid (k : Nat) (l : List Int) : copyRow (List.replicate k (0 : Int)) l 0 (List.replicate k (0 : Int)).length = wid k l := by
  unfold copyRow wid
  rw [List.length_replicate, List.take_zero, List.nil_append, Nat.zero_add, List.drop_replicate]
  refine List.ext_getElem (by simp; omega) fun q h1 h2 => ?_
  have hq : q < k := by simpa using h2
  rw [List.getElem_map, List.getElem_range, List.getElem_append]
  split
  · rename_i h
    rw [List.length_take] at h
    rw [List.getElem_take, getD_lt (by omega)]
  · rename_i h
    rw [List.length_take] at h
    rw [List.getElem_replicate]
    simp [List.getD, List.getElem?_eq_none (show l.length ≤ q by omega)]

theorem wide_is (l : List Int) (k : Nat) (hk : k ≤ 1000) : ladder_wide (l, (k : Int)) = some (wid k l) := by
  unfold ladder_wide
  dsimp only
  rw [if_pos (by omega), Int.toNat_natCast, copy_wid]

/-! ### A block of pointers -/

def ladR (s : Blk) : List Int := (List.range 8).map fun i => w2 s (2 * i)
theorem ladR_len (s : Blk) : (ladR s).length = 8 := by simp [ladR]
def ladOk (s : Blk) : Bool := zeros (s.drop 16)

theorem widths_is : ladder_widths () = some (List.replicate 8 2) := by
  have h : slices_Repeat_int_int.e ([2], 8) = some (List.replicate 8 2) := by kernel_rfl
  unfold ladder_widths
  rw [slices_Repeat_int_int.le ([2], 8) _ h, Option.bind_some]

theorem rd8 (s : Blk) (h : 16 ≤ s.length) : mould_Read (List.replicate 8 2, s) = some (ladR s, 0) := by
  rw [mould_Read_is _ _ (by decide), rd_ok _ _ (by decide) (by simp; omega)]
  have e : rdS (List.replicate 8 2) s = [((val (s.take 2) : Nat) : Int), ((val ((s.drop 2).take 2) : Nat) : Int), ((val (((s.drop 2).drop 2).take 2) : Nat) : Int), ((val ((((s.drop 2).drop 2).drop 2).take 2) : Nat) : Int),
    ((val (((((s.drop 2).drop 2).drop 2).drop 2).take 2) : Nat) : Int), ((val ((((((s.drop 2).drop 2).drop 2).drop 2).drop 2).take 2) : Nat) : Int), ((val (((((((s.drop 2).drop 2).drop 2).drop 2).drop 2).drop 2).take 2) : Nat) : Int),
    ((val ((((((((s.drop 2).drop 2).drop 2).drop 2).drop 2).drop 2).drop 2).take 2) : Nat) : Int)] := rfl
  have v0 := val2w s 0 (by omega)
  rw [List.drop_zero] at v0
  rw [e]
  simp only [List.drop_drop, Nat.reduceAdd]
  rw [v0, val2w s 2 (by omega), val2w s 4 (by omega), val2w s 6 (by omega), val2w s 8 (by omega), val2w s 10 (by omega), val2w s 12 (by omega), val2w s 14 (by omega)]
  rfl

theorem lread_s (s : Blk) (hs : s.length = 128) : ladder_Read s = some (if ladOk s = true then (ladR s, 0) else ([], 15)) := by
  unfold ladder_Read
  rw [widths_is, Option.bind_some, rd8 s (by omega), Option.bind_some]
  dsimp only
  rw [if_pos (by decide), if_pos (by simp [hs]), if_pos (by omega)]
  obtain ⟨r, h1, h2⟩ := trim_is (s.drop 16) (by simp; omega)
  rw [h1, Option.bind_some, h2]
  unfold ladOk
  cases zeros (s.drop 16) <;> rfl

theorem lread_0 : ladder_Read [] = some ([], 15) := by
  have e : rd (List.replicate 8 2) [] = ([], (rd (List.replicate 8 2) []).2) := by decide
  have e2 : ((rd (List.replicate 8 2) []).2 != 0) = true := by decide
  unfold ladder_Read
  rw [widths_is, Option.bind_some, mould_Read_is _ _ (by decide), e, Option.bind_some]
  dsimp only
  rw [if_neg (by rw [e2]; decide)]

/-! ### What is odd -/

def oddM (n : Nat) (m : List Int) : Bool := m.any fun x => x != 0 && !ownI n x

theorem cont1 (m : List Int) (hm : m.length ≤ 1000000) : slices_ContainsFunc_int_int_1 m = some (m.any fun x => x != 0) := by
  have := any_loop (f := slices_IndexFunc_int_int_1.l1) m 0 (fun x => x != 0) (fun i => (m, (m.length : Int), (i : Int))) (fun i hi => by
    unfold slices_IndexFunc_int_int_1.l1 chains_reader_list_1
    dsimp only
    rw [if_pos (by simpa using hi), if_pos (by omega), Int.toNat_natCast, Option.bind_some, wrap_succ (by omega)]) (by
    unfold slices_IndexFunc_int_int_1.l1
    dsimp only
    rw [if_neg (by simp)])
  unfold slices_ContainsFunc_int_int_1 slices_IndexFunc_int_int_1
  exact this

theorem cont3 (m : List Int) (hm : m.length ≤ 1000000) : slices_ContainsFunc_int_int_3 m = some (m.any fun x => x != 0) := by
  have := any_loop (f := slices_IndexFunc_int_int_3.l1) m 0 (fun x => x != 0) (fun i => (m, (m.length : Int), (i : Int))) (fun i hi => by
    unfold slices_IndexFunc_int_int_3.l1 ladder_used
    dsimp only
    rw [if_pos (by simpa using hi), if_pos (by omega), Int.toNat_natCast, Option.bind_some, wrap_succ (by omega)]) (by
    unfold slices_IndexFunc_int_int_3.l1
    dsimp only
    rw [if_neg (by simp)])
  unfold slices_ContainsFunc_int_int_3 slices_IndexFunc_int_int_3
  exact this

theorem cont4 (m : List Int) (hm : m.length ≤ 1000000) : slices_ContainsFunc_int_int_4 m = some (m.any fun x => decide (x < 0) || decide (x > 65535)) := by
  have := any_loop (f := slices_IndexFunc_int_int_4.l1) m 0 (fun x => decide (x < 0) || decide (x > 65535)) (fun i => (m, (m.length : Int), (i : Int))) (fun i hi => by
    unfold slices_IndexFunc_int_int_4.l1 ladder_Of_1
    dsimp only
    rw [if_pos (by simpa using hi), if_pos (by omega), Int.toNat_natCast, wrap_succ (by omega)]
    cases decide (m.getD i 0 < 0) with
    | false => rw [if_pos rfl, Option.bind_some, Bool.false_or]
    | true => rw [if_neg (by decide), Option.bind_some, Bool.true_or]) (by
    unfold slices_IndexFunc_int_int_4.l1
    dsimp only
    rw [if_neg (by simp)])
  unfold slices_ContainsFunc_int_int_4 slices_IndexFunc_int_int_4
  exact this

/-! ### A list of a file -/

def lstOk (n : Nat) (s : Blk) : Bool := ladOk s && ((ladR s).any (fun x => x != 0) && !oddM n (ladR s))
def rdL (g : Int → Blk) (n : Nat) (b : Int) : Option (List Int) := if ownI n b = true ∧ lstOk n (g b) = true then some (ladR (g b)) else none

def afterL (o : Option (List Int)) (acc : List Int) (b : Int) : (Bool × List Int) × List Int :=
  match o with
  | some l => ((false, acc ++ [b]), l)
  | none => ((true, acc ++ [b]), [])

/-- A list is read, if all went well till now; what was read. -/
def ldS (g : Int → Blk) (n : Nat) (st : Bool × List Int) (b : Int) : (Bool × List Int) × List Int :=
  if b = 0 ∨ st.1 = true then (st, []) else
    afterL (rdL g n b) st.2 b

theorem ldS_len (g : Int → Blk) (n : Nat) (st : Bool × List Int) (b : Int) : (ldS g n st b).2.length ≤ 8 ∧ (ldS g n st b).1.2.length ≤ st.2.length + 1 := by
  unfold ldS rdL afterL
  split
  · simp
  · split
    · rename_i l h
      split at h
      · cases h
        simp [ladR_len]
      · cases h
    · simp

def ldsS (g : Int → Blk) (n : Nat) : Bool × List Int → List Int → (Bool × List Int) × List (List Int)
  | st, [] => (st, [])
  | st, b :: bs => ((ldsS g n (ldS g n st b).1 bs).1, (ldS g n st b).2 :: (ldsS g n (ldS g n st b).1 bs).2)

theorem ldsS_len (g : Int → Blk) (n : Nat) : ∀ (bs : List Int) (st : Bool × List Int), (ldsS g n st bs).2.length = bs.length ∧ (ldsS g n st bs).1.2.length ≤ st.2.length + bs.length
  | [], st => ⟨rfl, Nat.le_refl _⟩
  | b :: bs, st => by
    have h1 := ldS_len g n st b
    have h2 := ldsS_len g n bs (ldS g n st b).1
    rw [ldsS, List.length_cons, List.length_cons]
    exact ⟨by rw [h2.1], by have := h2.2; dsimp only; omega⟩

def eI (e : Bool) : Int := if e = true then 15 else 0

section
variable {n : Nat} {xs : List Blk} {w : Loo} (h : Disk 1 n xs w) (c u : Int) (p1 : Bool) (p2 : Int)
include h

theorem odd_s (e : Int) (acc : List Int) (b : Int) : chains_reader_odd (((((xs, [], c, u), p1, p2), w), 1, (n : Int), 0, e, acc), b) = some (b != 0 && !ownI n b) := by
  unfold chains_reader_odd
  dsimp only
  by_cases h0 : (b != 0) = true
  · rw [if_pos h0, owned_s h, Option.bind_some, h0, Bool.true_and]
  · rw [if_neg h0]
    simp only [Bool.not_eq_true] at h0
    rw [h0, Bool.false_and]

theorem cont2 (m : List Int) (hm : m.length ≤ 1000000) (e : Int) (acc : List Int) : slices_ContainsFunc_int_int_2 (m, (((xs, [], c, u), p1, p2), w), 1, (n : Int), 0, e, acc) = some (oddM n m) := by
  have := any_loop (f := slices_IndexFunc_int_int_2.l1) m 0 (fun x => x != 0 && !ownI n x) (fun i => (m, ((((xs, [], c, u), p1, p2), w), 1, (n : Int), 0, e, acc), (m.length : Int), (i : Int))) (fun i hi => by
    unfold slices_IndexFunc_int_int_2.l1
    dsimp only
    rw [if_pos (by simpa using hi), if_pos (by omega), Int.toNat_natCast, odd_s h, Option.bind_some, wrap_succ (by omega)]) (by
    unfold slices_IndexFunc_int_int_2.l1
    dsimp only
    rw [if_neg (by simp)])
  unfold slices_ContainsFunc_int_int_2 slices_IndexFunc_int_int_2
  exact this

theorem list_s (st : Bool × List Int) (ha : st.2.length ≤ 1000) (b : Int) :
    chains_reader_list_1x (((1, (n : Int), 0, eI st.1), st.2, (p1, p2), w, (c, u), xs, []), b) =
      some (((1, (n : Int), 0, eI (ldS (getW xs w) n st b).1.1), (p1, p2), w, (c, u), xs, [], (ldS (getW xs w) n st b).1.2), (ldS (getW xs w) n st b).2) := by
  obtain ⟨e, acc⟩ := st
  unfold chains_reader_list_1x ldS
  dsimp only at ha ⊢
  by_cases h0 : b = 0
  · rw [if_neg (by simp [h0]), if_pos (.inl h0)]
  · rw [if_pos (by simp [h0])]
    cases e with
    | true => rw [if_pos (by decide), if_pos (.inr rfl)]
    | false =>
      rw [if_neg (by decide), if_pos (room (by decide) (by rw [List.length_singleton]; omega)), read_d h.full.len, Option.bind_some, if_neg (c := b = 0 ∨ false = true) (by simp [h0])]
      obtain ⟨s, e2, hread, hcase⟩ : ∃ s e2, (if thereS n b = true then (getW xs w b, (0 : Int)) else ([], 1)) = (s, e2) ∧ ((s.length = 128 ∧ e2 = 0 ∧ (ownI n b = true → s = getW xs w b)) ∨ (s = [] ∧ e2 = 1 ∧ ownI n b = false)) := by
        by_cases ht : thereS n b = true
        · have hb : 0 ≤ b ∧ b < (n : Int) := by
            unfold thereS at ht
            rw [decide_eq_true_eq] at ht
            omega
          exact ⟨_, _, if_pos ht, .inl ⟨h.full.get h.wf hb, rfl, fun _ => rfl⟩⟩
        · exact ⟨_, _, if_neg ht, .inr ⟨rfl, rfl, by
            unfold thereS at ht
            unfold ownI
            rw [decide_eq_true_eq] at ht
            rw [decide_eq_false_iff_not]
            omega⟩⟩
      rw [hread]
      dsimp only
      rcases hcase with ⟨hs, rfl, hg⟩ | ⟨rfl, rfl, ho⟩
      · rw [lread_s s hs, Option.bind_some]
        have hlen : (ladR s).length = 8 := ladR_len s
        have hc1 := cont1 (ladR s) (by omega)
        have hc2 := cont2 h c u p1 p2 (ladR s) (by omega) (eI false) (acc ++ [b])
        cases ho : ownI n b with
        | false =>
          have hr : rdL (getW xs w) n b = none := by unfold rdL; rw [ho]; simp
          rw [hr]
          cases hk : ladOk s with
          | false =>
            rw [if_neg (by decide)]
            dsimp only
            rw [cont1 [] (by decide), Option.bind_some, odd_s h, Option.bind_some, ho, if_neg (by simp [h0])]
            rfl
          | true =>
            rw [if_pos rfl]
            dsimp only
            rw [hc1, Option.bind_some, odd_s h, Option.bind_some, ho, if_neg (by simp [h0])]
            rfl
        | true =>
          have hgs := hg ho
          have hr : rdL (getW xs w) n b = if lstOk n s = true then some (ladR s) else none := by unfold rdL; rw [ho, ← hgs]; simp
          rw [hr]
          unfold lstOk
          cases hk : ladOk s with
          | false =>
            rw [if_neg (by decide)]
            dsimp only
            rw [cont1 [] (by decide), Option.bind_some, odd_s h, Option.bind_some, ho, if_pos (by simp), if_pos (by decide), if_neg (by decide), Bool.false_and, if_neg (by decide)]
            rfl
          | true =>
            rw [if_pos rfl]
            dsimp only
            rw [hc1, Option.bind_some, odd_s h, Option.bind_some, ho, if_pos (by simp), if_pos (by decide), if_pos (by decide), Bool.true_and]
            cases (ladR s).any (fun x => x != 0) with
            | false =>
              rw [if_neg (by decide), Bool.false_and, if_neg (by decide)]
              rfl
            | true =>
              rw [if_pos (by decide), hc2, Option.bind_some, Bool.true_and]
              cases oddM n (ladR s) with
              | true =>
                rw [if_pos rfl, if_neg (by decide)]
                rfl
              | false =>
                rw [if_neg (by decide), if_pos (c := (!false) = true) rfl]
                rfl
      · have hr : rdL (getW xs w) n b = none := by unfold rdL; rw [ho]; simp
        rw [lread_0, Option.bind_some, hr]
        dsimp only
        rw [cont1 [] (by decide), Option.bind_some, odd_s h, Option.bind_some, ho, if_neg (by simp [h0])]
        rfl

/-! ### Rungs -/

omit h in
theorem concat8 (a b : List Int) (ha : a.length < 1099511627) (hb : b.length < 1099511627) : slices_Concat_int_int_1 [a, b] = some (a ++ b) := concat_is a b ha hb

def mapR (p s : List Int) (dd : List (List Int)) : List Int := (wid 4 p ++ wid 8 s) ++ (List.range 8).flatMap fun k => wid 8 (dd.getD k [])

omit h in
theorem map_s (p s : List Int) (dd : List (List Int)) (hd : dd.length ≤ 1000) : ladder_Map (p, s, dd) = some (mapR p s dd) := by
  have hl : ∀ i : Nat, ((List.range i).flatMap fun k => wid 8 (dd.getD k [])).length = 8 * i := fun i => by
    induction i with
    | zero => rfl
    | succ i ih => rw [List.range_succ, List.flatMap_append, List.length_append, ih]; simp [wid_len]; omega
  have hloop := loop_run (f := ladder_Map.l1) (fun i => (((p, s, dd), (wid 4 p ++ wid 8 s) ++ (List.range i).flatMap fun k => wid 8 (dd.getD k [])), (i : Int))) (n := 8) (r := mapR p s dd) (fun i hi => by
    have hw := wide_is (dd.getD i []) 8 (by decide)
    have hw : ladder_wide (dd.getD i [], 8) = some (wid 8 (dd.getD i [])) := hw
    unfold ladder_Map.l1
    dsimp only
    rw [if_pos (by rw [decide_eq_true_eq]; omega)]
    have e : (if decide ((i : Int) < (dd.length : Int)) = true then
      if 0 ≤ (i : Int) ∧ (i : Int) < (dd.length : Int) then
       some ((((p, s, dd), (wid 4 p ++ wid 8 s) ++ (List.range i).flatMap fun k => wid 8 (dd.getD k [])), dd.getD (i : Int).toNat [], (i : Int)) : (tQ × tI) × tI × Int)
      else none
     else
      some ((((p, s, dd), (wid 4 p ++ wid 8 s) ++ (List.range i).flatMap fun k => wid 8 (dd.getD k [])), ([] : tI), (i : Int)))) = some (((p, s, dd), (wid 4 p ++ wid 8 s) ++ (List.range i).flatMap fun k => wid 8 (dd.getD k [])), dd.getD i [], (i : Int)) := by
      by_cases hid : i < dd.length
      · rw [if_pos (by rw [decide_eq_true_eq]; omega), if_pos (by omega), Int.toNat_natCast]
      · rw [if_neg (by rw [decide_eq_true_eq]; omega)]
        have : dd.getD i [] = [] := by simp [List.getD, List.getElem?_eq_none (Nat.le_of_not_lt hid)]
        rw [this]
    rw [e, Option.bind_some]
    dsimp only
    rw [hw, Option.bind_some, if_pos (room (by decide) (by
      rw [List.length_append, List.length_append, hl, wid_len, wid_len, wid_len]; omega)), wrap_succ (by omega), List.range_succ, List.flatMap_append, List.append_assoc]
    simp) (by
    unfold ladder_Map.l1
    dsimp only
    rw [if_neg (by decide)]
    rfl)
  have hloop : loopO ladder_Map.l1 (((p, s, dd), wid 4 p ++ wid 8 s), 0) = some (mapR p s dd) := by
    have e : (wid 4 p ++ wid 8 s) ++ ((List.range 0).flatMap fun k => wid 8 (dd.getD k [])) = wid 4 p ++ wid 8 s := by simp
    rw [← e]
    exact hloop
  have h4 : ladder_wide (p, 4) = some (wid 4 p) := wide_is p 4 (by decide)
  have h8 : ladder_wide (s, 8) = some (wid 8 s) := wide_is s 8 (by decide)
  unfold ladder_Map
  dsimp only
  rw [h4, Option.bind_some, h8, Option.bind_some, concat8 _ _ (by rw [wid_len]; decide) (by rw [wid_len]; decide), Option.bind_some, hloop, Option.bind_some]

/-- What a card's rungs are: whether all went well, which lists there are. -/
def rgS (g : Int → Blk) (n : Nat) (k : Card) : (Bool × List Int) × List Int × List (List Int) :=
  let a := ldS g n (false, []) k.2.2.2.2.2.1
  let b := ldS g n a.1 k.2.2.2.2.2.2.1
  let d := ldsS g n b.1 b.2
  ((oddM n k.2.2.2.2.1 || d.1.1, d.1.2), a.2, d.2)

theorem rungs_loop (k : Card) (t : List Int × List Int × List (List Int)) (o : List Int × List Int) : ∀ (bs pre : List Int) (all : List Int) (st : Bool × List Int) (acc : List (List Int)), pre ++ bs = all → st.2.length + bs.length ≤ 900 → acc.length = pre.length → all.length ≤ 100 →
    loopO chains_reader_rungs_1.l1 (((1, (n : Int), 0, eI st.1), (p1, p2), w, (c, u), xs, [], k, t, o, st.2, acc), all, (all.length : Int), (pre.length : Int)) =
      some ((1, (n : Int), 0, eI (ldsS (getW xs w) n st bs).1.1), (p1, p2), w, (c, u), xs, [], k, t, o, (ldsS (getW xs w) n st bs).1.2, acc ++ (ldsS (getW xs w) n st bs).2)
  | [], pre, all, st, acc, ht, _, _, _ => by
    refine loopO_inr ?_
    obtain ⟨k1, k2, k3, k4, k5, k6, k7, k8, k9⟩ := k
    obtain ⟨t1, t2, t3⟩ := t
    obtain ⟨o1, o2⟩ := o
    unfold chains_reader_rungs_1.l1
    dsimp only
    rw [if_neg (by rw [← ht]; simp), ldsS, List.append_nil]
  | b :: bs, pre, all, st, acc, ht, hl, ha, h4 => by
    rw [List.length_cons] at hl
    have hlen : pre.length < all.length := by rw [← ht]; simp
    have hg : all.getD pre.length 0 = b := by rw [← ht]; simp [List.getD]
    have hs := list_s h c u p1 p2 st (by omega) b
    have hsl := ldS_len (getW xs w) n st b
    have step : chains_reader_rungs_1.l1 (((1, (n : Int), 0, eI st.1), (p1, p2), w, (c, u), xs, [], k, t, o, st.2, acc), all, (all.length : Int), (pre.length : Int)) =
        some (.inl (((1, (n : Int), 0, eI (ldS (getW xs w) n st b).1.1), (p1, p2), w, (c, u), xs, [], k, t, o, (ldS (getW xs w) n st b).1.2, acc ++ [(ldS (getW xs w) n st b).2]), all, (all.length : Int), (((pre ++ [b]).length : Nat) : Int))) := by
      obtain ⟨k1, k2, k3, k4, k5, k6, k7, k8, k9⟩ := k
      obtain ⟨t1, t2, t3⟩ := t
      obtain ⟨o1, o2⟩ := o
      unfold chains_reader_rungs_1.l1
      dsimp only
      rw [if_pos (by simpa using hlen), if_pos (by omega), Int.toNat_natCast, hg, hs, Option.bind_some]
      dsimp only
      rw [if_pos (room (by decide) (by rw [List.length_singleton]; omega)), wrap_succ (by omega), List.length_append, List.length_singleton]
    rw [loopO_inl step, rungs_loop k t o bs (pre ++ [b]) all _ _ (by rw [← ht]; simp) (by omega) (by rw [List.length_append, List.length_append, ha]; rfl) h4, ldsS, List.append_assoc]
    rfl

theorem rungs_s (k : Card) (hk : k.2.2.2.2.1.length ≤ 1000000) :
    chains_reader_rungs_1 (((1, (n : Int), 0, 0), [], (p1, p2), w, (c, u), xs, []), k) =
      some (((1, (n : Int), 0, eI (rgS (getW xs w) n k).1.1), (p1, p2), w, (c, u), xs, [], (rgS (getW xs w) n k).1.2), k.2.2.2.2.1, (rgS (getW xs w) n k).2.1, (rgS (getW xs w) n k).2.2) := by
  have h1 := list_s h c u p1 p2 (false, []) (by decide) k.2.2.2.2.2.1
  have l1 := ldS_len (getW xs w) n (false, []) k.2.2.2.2.2.1
  have h1 : chains_reader_list_1x (((1, (n : Int), 0, 0), [], (p1, p2), w, (c, u), xs, []), k.2.2.2.2.2.1) = _ := h1
  have l1 : _ ∧ _ ≤ 0 + 1 := l1
  have h2 := list_s h c u p1 p2 (ldS (getW xs w) n (false, []) k.2.2.2.2.2.1).1 (by omega) k.2.2.2.2.2.2.1
  have l2 := ldS_len (getW xs w) n (ldS (getW xs w) n (false, []) k.2.2.2.2.2.1).1 k.2.2.2.2.2.2.1
  unfold chains_reader_rungs_1 rgS
  dsimp only
  rw [h1, Option.bind_some]
  dsimp only
  rw [h2, Option.bind_some]
  dsimp only
  have h3 := rungs_loop h c u p1 p2 k ([], [], []) (k.2.2.2.2.1, (ldS (getW xs w) n (false, []) k.2.2.2.2.2.1).2) (ldS (getW xs w) n (ldS (getW xs w) n (false, []) k.2.2.2.2.2.1).1 k.2.2.2.2.2.2.1).2 [] (ldS (getW xs w) n (ldS (getW xs w) n (false, []) k.2.2.2.2.2.1).1 k.2.2.2.2.2.2.1).2 (ldS (getW xs w) n (ldS (getW xs w) n (false, []) k.2.2.2.2.2.1).1 k.2.2.2.2.2.2.1).1 [] rfl (by omega) rfl (by omega)
  have h3 : loopO chains_reader_rungs_1.l1 (((1, (n : Int), 0, eI (ldS (getW xs w) n (ldS (getW xs w) n (false, []) k.2.2.2.2.2.1).1 k.2.2.2.2.2.2.1).1.1), (p1, p2), w, (c, u), xs, [], k, ([], [], []), (k.2.2.2.2.1, (ldS (getW xs w) n (false, []) k.2.2.2.2.2.1).2), (ldS (getW xs w) n (ldS (getW xs w) n (false, []) k.2.2.2.2.2.1).1 k.2.2.2.2.2.2.1).1.2, []), (ldS (getW xs w) n (ldS (getW xs w) n (false, []) k.2.2.2.2.2.1).1 k.2.2.2.2.2.2.1).2, ((ldS (getW xs w) n (ldS (getW xs w) n (false, []) k.2.2.2.2.2.1).1 k.2.2.2.2.2.2.1).2.length : Int), 0) = _ := h3
  rw [h3, Option.bind_some]
  generalize ldsS (getW xs w) n (ldS (getW xs w) n (ldS (getW xs w) n (false, []) k.2.2.2.2.2.1).1 k.2.2.2.2.2.2.1).1 (ldS (getW xs w) n (ldS (getW xs w) n (false, []) k.2.2.2.2.2.1).1 k.2.2.2.2.2.2.1).2 = D
  obtain ⟨k1, k2, k3, k4, k5, k6, k7, k8, k9⟩ := k
  dsimp only at hk ⊢
  rw [cont2 h c u p1 p2 k5 hk, Option.bind_some, List.nil_append]
  cases oddM n k5 with
  | true => rw [if_pos rfl, Bool.true_or]; rfl
  | false => rw [if_neg (by decide), Bool.false_or]

def may1 (k : Card) : Bool := rightC k && decide (k.1 = 1)

/-- A card's map, and its lists' blocks. -/
def loadR (g : Int → Blk) (n : Nat) (k : Card) : Option (List Int × List Int) :=
  if (rgS g n k).1.1 = true then none else some (mapR k.2.2.2.2.1 (rgS g n k).2.1 (rgS g n k).2.2, (rgS g n k).1.2)

theorem co_s (k : Card) (hk : lenD k) : chains_open_3 (((p1, p2), w, (c, u), xs, []), k) = some (if may1 k = true then .inr (((p1, p2), w, (c, u), xs, [], (1, (n : Int), 0, 0), []), 0) else .inl (((p1, p2), w, (c, u), xs, []), 1)) := by
  unfold chains_open_3 may1
  dsimp only
  rw [right_is k hk, Option.bind_some]
  cases rightC k with
  | false => rw [if_neg (by decide), if_neg (by simp)]
  | true =>
    rw [if_pos (by decide), Bool.true_and]
    by_cases h2 : k.1 = 1
    · rw [if_neg (by simp [h2]), crown_s h, Option.bind_some, if_pos (decide_eq_true h2)]
    · rw [if_pos (by simpa using h2), if_neg (by simpa using h2)]

theorem co2_s (k : Card) (hk : lenD k) (hm : may1 k = true) : chains_open_2 (((p1, p2), w, (c, u), xs, []), k) = some (.inr (((p1, p2), w, (c, u), xs, [], 1, (n : Int), 0, 0, []), 0)) := by
  unfold may1 at hm
  rw [Bool.and_eq_true, decide_eq_true_eq] at hm
  unfold chains_open_2
  dsimp only
  rw [right_is k hk, Option.bind_some, hm.1, if_pos (by decide), if_neg (by simp [hm.2]), crown_s h, Option.bind_some]

def ldM (o : Option (List Int × List Int)) : List Int × List Int × Int :=
  match o with
  | some (m, bs) => (m, bs, 0)
  | none => ([], [], 15)

theorem load_s (k : Card) (hk : lenD k) :
    chains_load_1 (((p1, p2), w, (c, u), xs, []), k) = some (((p1, p2), w, (c, u), xs, []), if may1 k = true then ldM (loadR (getW xs w) n k) else ([], [], 1)) := by
  unfold chains_load_1
  dsimp only
  rw [co_s h c u p1 p2 k hk, Option.bind_some]
  cases hm : may1 k with
  | false =>
    rw [if_neg (by decide), if_neg (by decide)]
    dsimp only
    rw [if_pos (by decide)]
  | true =>
    have hp : k.2.2.2.2.1.length ≤ 1000000 := by
      unfold may1 at hm
      rw [Bool.and_eq_true, decide_eq_true_eq] at hm
      obtain ⟨hm1, hm2⟩ := hm
      unfold rightC at hm1
      rw [Bool.or_eq_true] at hm1
      rcases hm1 with q | q
      · rw [decide_eq_true_eq] at q
        rw [q]
        decide
      · simp only [Bool.and_eq_true, Bool.or_eq_true, decide_eq_true_eq, beq_iff_eq, hm2] at q
        rcases q.2 with q | q
        · omega
        · omega
    rw [if_pos rfl, if_pos rfl]
    dsimp only
    have hdd : (rgS (getW xs w) n k).2.2.length ≤ 8 := by
      unfold rgS
      dsimp only
      rw [(ldsS_len _ _ _ _).1]
      exact (ldS_len _ _ _ _).1
    rw [if_neg (by decide), rungs_s h c u p1 p2 k hp, Option.bind_some]
    dsimp only
    rw [map_s _ _ _ (by omega), Option.bind_some]
    unfold loadR
    cases (rgS (getW xs w) n k).1.1 with
    | true => rw [if_pos (by decide), if_pos rfl]; rfl
    | false => rw [if_neg (by decide), if_neg (by decide)]; rfl

end

end Go.Proofs.YtlbammfnkphajaaGreatDoor.Abs
