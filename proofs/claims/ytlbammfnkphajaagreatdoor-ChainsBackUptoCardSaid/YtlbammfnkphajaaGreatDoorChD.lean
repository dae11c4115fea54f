/- Chains: a new disk; rungs of a map; lists are written. -/
import Derived.Test.YtlbammfnkphajaaGreatDoorChC
namespace Go.Proofs.YtlbammfnkphajaaGreatDoor.Abs
open Go
set_option linter.unusedVariables false
attribute [-simp] List.getD_eq_getElem?_getD

/-! ### A new disk -/

def w0 (n : Nat) : Loo := mp (mp [] 0 (wrK (1, (n : Int), 0)).1) 42 (marksB n)

theorem new_right {n : Nat} (hr : 64 ≤ n ∧ n ≤ 400) : rightK (1, (n : Int), 0) = true := by
  unfold rightK
  dsimp only
  rw [decide_eq_true (p := 64 ≤ (n : Int) ∧ (n : Int) ≤ 400) (by omega)]
  rfl

theorem new_disk {n : Nat} (hr : 64 ≤ n ∧ n ≤ 400) : Disk 1 n (newX n) (w0 n) where
  full := newX_full n
  wf := ((WfW.nil n).put (by unfold thereS; rw [decide_eq_true_eq]; omega) (wrK_len (new_right hr))).put (by unfold thereS; rw [decide_eq_true_eq]; omega) (by unfold marksB; exact marksU_len n 1024)
  crown := by
    unfold w0
    rw [get_put, if_neg (by decide), get_put, if_pos rfl]
  fmt := .inl rfl
  room := hr

theorem new_mk (n : Nat) : mkW (newX n) (w0 n) = marksB n := by
  unfold mkW w0
  rw [get_put, if_pos rfl]

theorem new_free {n : Nat} (hr : 64 ≤ n ∧ n ≤ 400) : freeS n (mkW (newX n) (w0 n)) = n - 51 := by
  rw [new_mk]
  have hf : ∀ q : Nat, q < n → usedF (marksB n) q = decide (q < 51) := fun q hq => by
    unfold usedF marksB
    rw [marksU_is n 1024 (Nat.le_refl _) q (by omega)]
    by_cases h : q < 51
    · rw [decide_eq_true h]; rfl
    · rw [decide_eq_false h, decide_eq_false (by omega)]; rfl
  have hc : ∀ L, L ≤ n → cntF (usedF (marksB n)) L = min L 51 := by
    intro L
    induction L with
    | zero => intro _; rfl
    | succ L ih =>
      intro hL
      rw [cntF, ih (by omega), hf L (by omega)]
      by_cases h : L < 51
      · rw [decide_eq_true h]; simp; omega
      · rw [decide_eq_false h]; simp; omega
  unfold freeS
  rw [hc n (Nat.le_refl _)]
  omega

theorem begin_is {n : Nat} (hr : 64 ≤ n ∧ n ≤ 400) : lw14_begin (n : Int) = some (.inr ((false, 0), w0 n, (0, -1), newX n, [])) := by
  unfold lw14_begin
  rw [new0 n hr.2, Option.bind_some]
  dsimp only
  rw [log_open0 hr, Option.bind_some]
  dsimp only
  rw [if_neg (by decide)]
  unfold deal_Begin_2
  rw [Option.bind_some]
  dsimp only
  have hk : okK n (1, (n : Int), 0) := ⟨new_right hr, Int.le_refl _⟩
  rw [if_pos (by decide), setCrown_d (newX_full n) hr.1, if_pos hk, if_pos hk, Option.bind_some]
  dsimp only
  rw [if_pos (by decide), marks_is, Option.bind_some, write_d (newX_full n).len, if_pos ⟨by unfold thereS; rw [decide_eq_true_eq]; omega, by rw [show (marksB n).length = 128 from marksU_len n 1024]; omega⟩, if_pos ⟨by unfold thereS; rw [decide_eq_true_eq]; omega, by rw [show (marksB n).length = 128 from marksU_len n 1024]; omega⟩, Option.bind_some]
  dsimp only
  rw [if_neg (by decide), show wholeS (marksB n) = marksB n from wholeS_id _ (marksU_len n 1024)]
  rfl

def fresh : Card := (1, 1, 1, 0, [0, 0, 0, 0], 0, 0, [], 0)
theorem fresh_is : lw14_fresh () = some fresh := by
  unfold lw14_fresh rf09_New
  dsimp only
  rw [if_pos (by decide), Option.bind_some]
  dsimp only
  rw [if_pos (by decide), refRight_c _ ⟨by decide, by decide⟩, Option.bind_some]
  rfl

/-! ### Rungs of a map -/

def lst (l : List Int) : List Int := if (l.any fun x => x != 0) = true then l else []
def row (m : List Int) (at_ : Nat) : List Int := (List.range 8).map fun j => m.getD (at_ + j) 0
def rS (m : List Int) : List Int := lst (row m 4)
def rRows (m : List Int) : List (List Int) := (List.range 8).map fun i => lst (row m (12 + 8 * i))
def rDD (m : List Int) : List (List Int) := if ((rRows m).any fun l => !l.isEmpty) = true then rRows m else []
def overM (m : List Int) : Bool := (m.drop 76).any fun x => x != 0
def rngM (m : List Int) : Bool := m.any fun x => decide (x < 0) || decide (x > 65535)

theorem row_len (m : List Int) (a : Nat) : (row m a).length = 8 := by simp [row]
theorem lst_ne (l : List Int) : (!(lst l).isEmpty) = l.any fun x => x != 0 := by
  unfold lst
  cases h : l.any fun x => x != 0 with
  | false => rw [if_neg (by decide)]; rfl
  | true =>
    rw [if_pos rfl]
    cases l with
    | nil => simp at h
    | cons a l => rfl

theorem clone_s (l : List Int) (hl : l.length ≤ 1000000) : slices_Clone_int_int l = some l := by
  unfold slices_Clone_int_int
  cases l with
  | nil =>
    rw [if_pos (show ([] : List Int).isEmpty = true from rfl), if_pos (room (by decide) (by decide))]
    unfold agree
    exact if_pos rfl
  | cons a l =>
    rw [if_neg (by simp), if_pos (room (by decide) (by simp at hl ⊢; omega))]
    rfl

theorem lst_s (l : List Int) (hl : l.length ≤ 1000) : ladder_list l = some (lst l) := by
  unfold ladder_list
  rw [cont3 l (by omega), Option.bind_some]
  have h := lst_ne l
  unfold lst at h ⊢
  cases hany : l.any fun x => x != 0 with
  | false => rw [if_pos (by decide), if_neg (by decide)]
  | true =>
    rw [hany, if_pos rfl] at h
    rw [if_neg (by decide), clone_s l (by omega), Option.bind_some, if_neg (by simpa using h), if_pos rfl]

theorem fold_lists (t : tQ) (r : List Int × List Int) : ∀ (ps acc : List (List Int)), acc.length + ps.length ≤ 1000000 → (∀ p ∈ ps, p.length ≤ 1000) → foldO ladder_Of.l1 ps (t, r, acc) = some (t, r, acc ++ ps.map lst)
  | [], acc, _, _ => by rw [foldO, List.map_nil, List.append_nil]
  | p :: ps, acc, h, hp => by
    rw [List.length_cons] at h
    obtain ⟨t1, t2, t3⟩ := t
    obtain ⟨r1, r2⟩ := r
    have step : ladder_Of.l1 p ((t1, t2, t3), (r1, r2), acc) = some ((t1, t2, t3), (r1, r2), acc ++ [lst p]) := by
      unfold ladder_Of.l1
      dsimp only
      rw [lst_s p (hp p List.mem_cons_self), Option.bind_some, if_pos (room (by decide) (by rw [List.length_singleton]; omega))]
    rw [foldO, step, Option.bind_some, fold_lists (t1, t2, t3) (r1, r2) ps (acc ++ [lst p]) (by rw [List.length_append, List.length_singleton]; omega) (fun q hq => hp q (List.mem_cons_of_mem _ hq)), List.append_assoc]
    rfl

theorem chunks_flat {α : Type} (n : Nat) (hn : 1 ≤ n) : ∀ (f : Nat) (l : List α), l.length ≤ f → (chunks n f l).flatten = l
  | 0, l, h => by
    have : l = [] := List.length_eq_zero_iff.1 (by omega)
    subst this
    rfl
  | f + 1, [], _ => rfl
  | f + 1, x :: xs, h => by
    rw [chunks, List.flatten_cons, chunks_flat n hn f _ (by rw [List.length_drop, List.length_cons] at *; omega), List.take_append_drop]

theorem rows_of (f : Nat → Int) : chunks 8 64 (((List.range 76).map f).drop 12) = (List.range 8).map fun i => (List.range 8).map fun j => f (12 + 8 * i + j) := by kernel_rfl
theorem seg4 (f : Nat → Int) : ((List.range 76).map f).take 4 = (List.range 4).map f := by kernel_rfl
theorem seg8 (f : Nat → Int) : (((List.range 76).map f).take 12).drop 4 = (List.range 8).map fun j => f (4 + j) := by kernel_rfl

theorem rows_map (m : List Int) : (chunks 8 64 ((wid 76 m).drop 12)).map lst = rRows m := by
  unfold wid rRows row
  rw [rows_of, List.map_map]
  rfl

theorem rows_any (m : List Int) : (((wid 76 m).drop 12).any fun x => x != 0) = (rRows m).any fun l => !l.isEmpty := by
  rw [← rows_map, List.any_map]
  have h := chunks_flat 8 (by decide) 64 ((wid 76 m).drop 12) (by rw [List.length_drop, wid_len]; decide)
  rw [← h, List.any_flatten, h]
  congr 1
  funext l
  exact (lst_ne l).symm

theorem of_s (m : List Int) (hm : m.length ≤ 100000) : ladder_Of m = some (if overM m = true then (([], [], []), 12) else if rngM m = true then (([], [], []), 3) else ((wid 4 m, rS m, rDD m), 0)) := by
  have hw : ladder_wide (m, 76) = some (wid 76 m) := wide_is m 76 (by decide)
  have hl : (wid 76 m).length = 76 := wid_len 76 m
  have h4 : (wid 76 m).take 4 = wid 4 m := seg4 _
  have h8 : ((wid 76 m).take 12).drop 4 = row m 4 := seg8 _
  have rest : ∀ o, o = overM m → ((if o = true then some ((([], [], []), 12) : tQ × Int) else
      (slices_ContainsFunc_int_int_4 m).bind fun r18 =>
        if r18 = true then some (([], [], []), 3) else
         (ladder_wide (m, 76)).bind fun r21 =>
          if 0 ≤ (4 : Int) ∧ (4 : Int) ≤ (r21.length : Int) then
           (slices_Clone_int_int (r21.take 4)).bind fun r24 =>
            if 0 ≤ (4 : Int) ∧ (4 : Int) ≤ (12 : Int) ∧ (12 : Int) ≤ (r21.length : Int) then
             (ladder_list ((r21.take 12).drop 4)).bind fun r27 =>
              if 0 ≤ (12 : Int) ∧ (12 : Int) ≤ (r21.length : Int) then
               (ladder_list (r21.drop 12)).bind fun r31 =>
                if (r31.isEmpty ^^ true) = true then
                 if 0 ≤ (12 : Int) ∧ (12 : Int) ≤ (r21.length : Int) then
                  (slices_Chunk_int_int (r21.drop 12, 8)).bind fun (r35, r35_2) =>
                   if 1 ≤ (r35_2 : Int) ∧ (r35_2 : Int) + (r35.length : Int) ≤ 9223372036854775807 then
                     (foldO ladder_Of.l1 (chunks (r35_2 : Int).toNat r35.length r35) ((([], [], []), (r24, r27), []))).bind fun ((t2a, t2b, t2c), (r4a, r4b), o2) =>
                     if o2.isEmpty = true then none else
                     some ((((r4a, r4b, o2), 0)))
                   else none
                 else none
                else
                 some ((((r24, r27, ([] : List tI)), 0)))
              else none
            else none
          else none)) = some (if overM m = true then (([], [], []), 12) else if rngM m = true then (([], [], []), 3) else ((wid 4 m, rS m, rDD m), 0)) := by
    rintro o rfl
    cases overM m with
    | true => rw [if_pos rfl, if_pos rfl]
    | false =>
      rw [if_neg (by decide), if_neg (by decide), cont4 m (by omega), Option.bind_some, show (m.any fun x => decide (x < 0) || decide (x > 65535)) = rngM m from rfl]
      cases rngM m with
      | true => rw [if_pos rfl, if_pos rfl]
      | false =>
        rw [if_neg (by decide), if_neg (by decide), hw, Option.bind_some, hl, if_pos (by decide), h4, clone_s _ (by rw [wid_len]; decide), Option.bind_some, if_pos (by decide), h8, lst_s _ (by rw [row_len]; decide), Option.bind_some, if_pos (by decide), lst_s _ (by rw [List.length_drop, hl]; decide), Option.bind_some]
        have hany := lst_ne ((wid 76 m).drop 12)
        rw [rows_any] at hany
        have hx : ((lst ((wid 76 m).drop 12)).isEmpty ^^ true) = (rRows m).any fun l => !l.isEmpty := by rw [← hany]; cases (lst ((wid 76 m).drop 12)).isEmpty <;> rfl
        rw [hx]
        unfold rDD
        cases (rRows m).any fun l => !l.isEmpty with
        | false => rw [if_neg (by decide), if_neg (by decide)]; rfl
        | true =>
          have hd : ((wid 76 m).drop 12).length = 64 := by rw [List.length_drop, hl]
          have hc : slices_Chunk_int_int ((wid 76 m).drop 12, 8) = some ((wid 76 m).drop 12, 8) := by
            unfold slices_Chunk_int_int
            dsimp only
            rw [if_neg (by decide)]
          rw [if_pos rfl, if_pos rfl, if_pos (by decide), hc, Option.bind_some]
          dsimp only
          have hmem : ∀ p ∈ chunks 8 64 ((wid 76 m).drop 12), p.length ≤ 1000 := by
            unfold wid
            rw [rows_of]
            intro p hp
            obtain ⟨i, _, rfl⟩ := List.mem_map.1 hp
            simp
          have hcl : (chunks 8 64 ((wid 76 m).drop 12)).length = 8 := by
            unfold wid
            rw [rows_of]
            simp
          rw [hd, if_pos (by decide), show (8 : Int).toNat = 8 from rfl, fold_lists _ _ _ [] (by rw [hcl]; decide) hmem, Option.bind_some]
          dsimp only
          rw [rows_map, List.nil_append, if_neg (by simp [rRows])]
          rfl
  unfold ladder_Of
  by_cases hb : (m.length : Int) > 76
  · rw [if_pos (by simpa using hb), if_pos (by omega), cont3 _ (by rw [List.length_drop]; omega), Option.bind_some, Option.bind_some]
    exact rest _ rfl
  · rw [if_neg (by simpa using hb), Option.bind_some]
    exact rest _ (by
      unfold overM
      rw [List.drop_of_length_le (by omega)]
      rfl)

/-! ### How many lists -/

def cntL (dd : List (List Int)) : Nat := (dd.filter fun l => !l.isEmpty).length
def nbS (s : List Int) (dd : List (List Int)) : Nat := ((if (!s.isEmpty) = true then 1 else 0) + (if (!dd.isEmpty) = true then 1 else 0)) + cntL dd

theorem cntL_le (dd : List (List Int)) : cntL dd ≤ dd.length := List.length_filter_le _ _

theorem blocks_s (p s : List Int) (dd : List (List Int)) (hd : dd.length ≤ 1000) : ladder_Blocks (p, s, dd) = some ((nbS s dd : Nat) : Int) := by
  have key : ∀ a : Nat, a ≤ 10 → loopO ladder_Blocks.l1 ((a : Int), dd, (dd.length : Int), 0) = some ((a + cntL dd : Nat) : Int) := by
    intro a ha
    have := loop_run (f := ladder_Blocks.l1) (fun i => (((a + cntL (dd.take i) : Nat) : Int), dd, (dd.length : Int), (i : Int))) (n := dd.length) (r := ((a + cntL dd : Nat) : Int)) (fun i hi => by
      have hcl := cntL_le (dd.take i)
      rw [List.length_take] at hcl
      unfold ladder_Blocks.l1
      dsimp only
      rw [if_pos (by simpa using hi), if_pos (by omega), Int.toNat_natCast, getD_lt hi, List.take_succ_eq_append_getElem hi]
      have hx : (dd[i].isEmpty ^^ true) = !dd[i].isEmpty := by cases dd[i].isEmpty <;> rfl
      rw [hx, wrap_succ (by omega), wrap_succ (by omega)]
      unfold cntL
      rw [List.filter_append, List.length_append]
      by_cases q : (!dd[i].isEmpty) = true
      · rw [if_pos q, List.filter_cons_of_pos (by exact q)]
        rfl
      · rw [if_neg q, List.filter_cons_of_neg (by exact q)]
        rfl) (by
      unfold ladder_Blocks.l1
      dsimp only
      rw [if_neg (by simp), List.take_length])
    simpa [cntL] using this
  have hx : ∀ b : Bool, (b ^^ true) = !b := by decide
  unfold ladder_Blocks nbS
  dsimp only
  rw [hx]
  by_cases h1 : (!s.isEmpty) = true
  · rw [if_pos h1, if_pos h1, Option.bind_some]
    dsimp only
    rw [hx]
    by_cases h2 : (!dd.isEmpty) = true
    · rw [if_pos h2, if_pos h2, Option.bind_some]
      have := key 2 (by decide)
      dsimp only
      rw [show IntKind.i64.wrap (IntKind.i64.wrap (0 + 1) + 1) = ((2 : Nat) : Int) from by decide, this]
      rfl
    · rw [if_neg h2, if_neg h2, Option.bind_some]
      have := key 1 (by decide)
      dsimp only
      rw [show IntKind.i64.wrap (0 + 1) = ((1 : Nat) : Int) from by decide, this]
      rfl
  · rw [if_neg h1, if_neg h1, Option.bind_some]
    dsimp only
    rw [hx]
    by_cases h2 : (!dd.isEmpty) = true
    · rw [if_pos h2, if_pos h2, Option.bind_some]
      have := key 1 (by decide)
      dsimp only
      rw [show IntKind.i64.wrap (0 + 1) = ((1 : Nat) : Int) from by decide, this]
      rfl
    · rw [if_neg h2, if_neg h2, Option.bind_some]
      have := key 0 (by decide)
      dsimp only
      have this : loopO ladder_Blocks.l1 (0, dd, (dd.length : Int), 0) = _ := this
      rw [this]
      rfl

end Go.Proofs.YtlbammfnkphajaaGreatDoor.Abs
