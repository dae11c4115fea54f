/- Runs: a new disk; pages are written; what is saved, piece by piece. -/
import Derived.Test.YtlbammfnkphajaaGreatDoorRnC
namespace Go.Proofs.YtlbammfnkphajaaGreatDoor.Abs
open Go
set_option linter.unusedVariables false
attribute [-simp] List.getD_eq_getElem?_getD

/-! ### A new disk -/

def w0 (n : Nat) : Loo := mp (mp [] 0 (wrK (2, (n : Int), 0)).1) 42 (marksB n)

theorem new_right {n : Nat} (hr : 64 ≤ n ∧ n ≤ 400) : rightK (2, (n : Int), 0) = true := by
  unfold rightK
  dsimp only
  rw [decide_eq_true (p := 64 ≤ (n : Int) ∧ (n : Int) ≤ 400) (by omega)]
  rfl

theorem new_disk {n : Nat} (hr : 64 ≤ n ∧ n ≤ 400) : Disk 2 n (newX n) (w0 n) where
  full := newX_full n
  wf := ((WfW.nil n).put (by unfold thereS; rw [decide_eq_true_eq]; omega) (wrK_len (new_right hr))).put (by unfold thereS; rw [decide_eq_true_eq]; omega) (by unfold marksB; exact marksU_len n 1024)
  crown := by
    unfold w0
    rw [get_put, if_neg (by decide), get_put, if_pos rfl]
  fmt := .inr rfl
  room := hr

theorem new_mk (n : Nat) : mkW (newX n) (w0 n) = marksB n := by
  unfold mkW w0
  rw [get_put, if_pos rfl]

theorem new_free {n : Nat} (hr : 64 ≤ n ∧ n ≤ 400) : freeS n (mkW (newX n) (w0 n)) = n - 51 := by
  rw [new_mk]
  have hf : ∀ q : Nat, q < n → usedF (marksB n) q = decide (q < 51) := fun q hq => by
    unfold usedF marksB
    rw [marksU_is n 1024 (Nat.le_refl _) q (by omega)]
    by_cases h : q < 51
    · rw [decide_eq_true h]; rfl
    · rw [decide_eq_false h, decide_eq_false (by omega)]; rfl
  have hc : ∀ L, L ≤ n → cntF (usedF (marksB n)) L = min L 51 := by
    intro L
    induction L with
    | zero => intro _; rfl
    | succ L ih =>
      intro hL
      rw [cntF, ih (by omega), hf L (by omega)]
      by_cases h : L < 51
      · rw [decide_eq_true h]; simp; omega
      · rw [decide_eq_false h]; simp; omega
  unfold freeS
  rw [hc n (Nat.le_refl _)]
  omega

theorem begin_is {n : Nat} (hr : 64 ≤ n ∧ n ≤ 400) : lw15_begin (n : Int) = some (.inr ((false, 0), w0 n, (0, -1), newX n, [])) := by
  unfold lw15_begin
  rw [new0 n hr.2, Option.bind_some]
  dsimp only
  rw [log_open0 hr, Option.bind_some]
  dsimp only
  rw [if_neg (by decide)]
  unfold deal_Begin_2
  rw [Option.bind_some]
  dsimp only
  have hk : okK n (2, (n : Int), 0) := ⟨new_right hr, Int.le_refl _⟩
  rw [if_pos (by decide), setCrown_d (newX_full n) hr.1, if_pos hk, if_pos hk, Option.bind_some]
  dsimp only
  rw [if_pos (by decide), marks_is, Option.bind_some, write_d (newX_full n).len, if_pos ⟨by unfold thereS; rw [decide_eq_true_eq]; omega, by rw [show (marksB n).length = 128 from marksU_len n 1024]; omega⟩, if_pos ⟨by unfold thereS; rw [decide_eq_true_eq]; omega, by rw [show (marksB n).length = 128 from marksU_len n 1024]; omega⟩, Option.bind_some]
  dsimp only
  rw [if_neg (by decide), show wholeS (marksB n) = marksB n from wholeS_id _ (marksU_len n 1024)]
  rfl

def fresh : Card := (2, 1, 1, 0, [], 0, 0, [], 0)
theorem fresh_is : lw15_fresh () = some fresh := by
  unfold lw15_fresh rf09_New
  dsimp only
  rw [if_neg (by decide), Option.bind_some]
  dsimp only
  rw [if_pos (by decide), refRight_c _ ⟨by decide, by decide⟩, Option.bind_some]
  rfl

/-! ### A page is written -/

theorem pad126 (s : Blk) (h : s.length ≤ 126) : mould_Pad (s, 126) = some (s ++ List.replicate (126 - s.length) 0, 0) := by
  have hf : mould_fits (s, 126) = some 0 := by
    unfold mould_fits
    simp only
    rw [if_pos (by decide), Option.bind_some]
    simp only
    rw [if_neg (by decide), if_neg (by simp; omega)]
  unfold mould_Pad
  simp only
  rw [hf, Option.bind_some, if_neg (by decide), wrap64 (by omega) (by omega)]
  unfold strings_Repeat
  simp only
  rw [if_pos ⟨by omega, by omega, by simp; omega⟩, Option.bind_some, repL_one, if_pos (by simp; omega), show (126 - (s.length : Int)).toNat = 126 - s.length by omega]

theorem small_fit {r : Sp} (h : small r) : fitW [2, 2, 2] [r.1, r.2.1, r.2.2] = true := by
  obtain ⟨h1, h2, h3⟩ := h
  simp only [fitW, Bool.and_eq_true, decide_eq_true_eq, lim]
  simp
  omega

theorem pw_s (p : Pg) (nx b0 : Int) (hp : p.length ≤ 20) (hs : ∀ r ∈ p, small r) (hn : 0 ≤ nx ∧ nx ≤ 65535) : runs_page_write (p, nx) = some (pageB p nx, 0) := by
  have hu : IntKind.u8.wrap (p.length : Int) = (p.length : Int) := by
    simp only [IntKind.wrap, IntKind.signed, IntKind.bits]
    simp
    omega
  have hloop := loop_run (f := runs_page_write.l1) (fun i => (((p, nx), (p.length : Int) :: ((p.take i).flatMap runB).map fun b => (b.toNat : Int)), p, (p.length : Int), (i : Int))) (n := p.length) (r := .inl ((p, nx), (p.length : Int) :: ((p.take p.length).flatMap runB).map fun b => (b.toNat : Int))) (fun i hi => by
    unfold runs_page_write.l1
    dsimp only
    have hg : p.getD i (0, 0, 0) = p[i] := getD_lt hi
    have hfit := small_fit (hs p[i] (List.getElem_mem hi))
    rw [if_pos (by simpa using hi), if_pos (by omega), Int.toNat_natCast, hg, mould_Write_is _ _ (by decide) (by simp), wr_fit _ _ (by decide) hfit, Option.bind_some]
    dsimp only
    have he : encT [2, 2, 2] [p[i].1, p[i].2.1, p[i].2.2] = runB p[i] := by
      simp only [encT, runB, b2]
      rfl
    rw [if_neg (by decide), he, if_pos (room (by decide) (by
      rw [List.length_map, runB_len, List.length_cons, List.length_map, runs_len, List.length_take]; omega)), wrap_succ (by omega), List.take_succ_eq_append_getElem hi, List.flatMap_append, List.map_append]
    simp) (by
    unfold runs_page_write.l1
    dsimp only
    rw [if_neg (by simp)])
  have hloop : loopO runs_page_write.l1 (((p, nx), [(p.length : Int)]), p, (p.length : Int), 0) = _ := hloop
  unfold runs_page_write
  dsimp only
  rw [hu, hloop, Option.bind_some]
  dsimp only
  rw [List.take_length]
  have hh : (((p.length : Int) :: (p.flatMap runB).map fun b => (b.toNat : Int))).map (fun (n : Int) => UInt8.ofNat n.toNat) = headB p := by
    rw [List.map_cons, map_back, Int.toNat_natCast]
    rfl
  rw [hh, pad126 _ (by rw [headB_len]; omega), Option.bind_some]
  dsimp only
  have hf1 : fitW [2] [nx] = true := by
    simp only [fitW, lim]
    simp
    omega
  rw [if_neg (by decide), mould_Write_is _ _ (by decide) (by simp), wr_fit _ _ (by decide) hf1, Option.bind_some]
  dsimp only
  have he : encT [2] [nx] = b2 nx := by
    simp only [encT, b2]
    rfl
  rw [he, if_pos (by rw [List.length_append, headB_len, List.length_replicate, b2_len]; omega), headB_len, List.append_assoc]
  rfl

/-! ### Pages of twenty -/

def pagesS (l : Pg) : List Pg := chunks 20 (l.drop 3).length (l.drop 3)

theorem min3P (n : Nat) : (if 3 < (n : Int) then 3 else (n : Int)) = ((min 3 n : Nat) : Int) := by
  by_cases h : 3 < (n : Int)
  · rw [if_pos h]; omega
  · rw [if_neg h]; omega
theorem take3 {α : Type} (l : List α) : l.take (min 3 l.length) = l.take 3 := by rw [← List.take_take, List.take_length]
theorem drop3 {α : Type} (l : List α) : l.drop (min 3 l.length) = l.drop 3 := by
  by_cases h : 3 ≤ l.length
  · rw [Nat.min_eq_left h]
  · rw [Nat.min_eq_right (by omega), List.drop_length, List.drop_of_length_le (by omega)]

theorem chunks_len {α : Type} (n : Nat) (hn : 1 ≤ n) : ∀ (f : Nat) (l : List α), (chunks n f l).length ≤ l.length
  | 0, _ => Nat.zero_le _
  | _ + 1, [] => Nat.zero_le _
  | f + 1, x :: xs => by
    rw [chunks, List.length_cons]
    have := chunks_len n hn f ((x :: xs).drop n)
    rw [List.length_drop, List.length_cons] at this
    rw [List.length_cons]
    omega

theorem fold_pages : ∀ (ps : List Pg) (acc : List (Pg × Int)), acc.length + ps.length ≤ 1000000 → foldO runs_pages.l1 ps acc = some (acc ++ ps.map fun p => (p, (0 : Int)))
  | [], acc, _ => by rw [foldO, List.map_nil, List.append_nil]
  | p :: ps, acc, h => by
    rw [List.length_cons] at h
    rw [foldO]
    unfold runs_pages.l1
    rw [if_pos (room (by decide) (by rw [List.length_singleton]; omega)), Option.bind_some]
    have := fold_pages ps (acc ++ [(p, 0)]) (by rw [List.length_append, List.length_singleton]; omega)
    unfold runs_pages.l1 at this
    rw [this, List.append_assoc]
    rfl

theorem pages_s (l : Pg) (hl : l.length ≤ 100000) : runs_pages l = some ((pagesS l).map fun p => (p, (0 : Int))) := by
  have hc := chunks_len 20 (by decide) (l.drop 3).length (l.drop 3)
  rw [List.length_drop] at hc
  unfold runs_pages
  rw [min3P, if_pos (by omega), Int.toNat_natCast, drop3]
  unfold api_Span_5
  dsimp only
  rw [if_neg (by decide), Option.bind_some]
  dsimp only
  rw [if_pos (by rw [List.length_drop]; omega), show (20 : Int).toNat = 20 from rfl, fold_pages _ _ (by rw [List.length_drop]; simp; omega), Option.bind_some]
  rfl

theorem chunks_flat {α : Type} (n : Nat) (hn : 1 ≤ n) : ∀ (f : Nat) (l : List α), l.length ≤ f → (chunks n f l).flatten = l
  | 0, l, h => by
    have : l = [] := List.length_eq_zero_iff.1 (by omega)
    subst this
    rfl
  | f + 1, [], _ => rfl
  | f + 1, x :: xs, h => by
    rw [chunks, List.flatten_cons, chunks_flat n hn f _ (by rw [List.length_drop, List.length_cons] at *; omega), List.take_append_drop]

theorem chunks_good : ∀ (f : Nat) (l : Pg), l.length ≤ f → (∀ r ∈ l, small r) → goodP (chunks 20 f l)
  | 0, _, _, _ => trivial
  | f + 1, [], _, _ => trivial
  | f + 1, x :: xs, h, hs => by
    have ih := chunks_good f ((x :: xs).drop 20) (by rw [List.length_drop, List.length_cons] at *; omega) (fun r hr => hs r (List.mem_of_mem_drop hr))
    rw [chunks]
    cases hd : (x :: xs).drop 20 with
    | nil =>
      have : (x :: xs).length ≤ 20 := List.drop_eq_nil_iff.1 hd
      have e : chunks 20 f ([] : Pg) = [] := by cases f <;> rfl
      rw [e]
      exact ⟨by rw [List.length_take, List.length_cons]; omega, by rw [List.length_take]; omega, fun r hr => hs r (List.mem_of_mem_take hr)⟩
    | cons y ys =>
      rw [hd] at ih
      have hlen : 20 < (x :: xs).length := by
        have := congrArg List.length hd
        rw [List.length_drop, List.length_cons (a := y)] at this
        omega
      cases f with
      | zero => simp at h; subst h; simp at hlen
      | succ f =>
        rw [chunks] at ih ⊢
        exact ⟨⟨by rw [List.length_take]; omega, fun r hr => hs r (List.mem_of_mem_take hr)⟩, ih⟩

theorem chunks_count {α : Type} : ∀ (f : Nat) (l : List α), l.length ≤ f → (chunks 20 f l).length = (l.length + 19) / 20
  | 0, l, h => by
    have : l = [] := List.length_eq_zero_iff.1 (by omega)
    subst this
    simp [chunks]
  | f + 1, [], _ => by simp [chunks]
  | f + 1, x :: xs, h => by
    rw [chunks, List.length_cons, chunks_count f _ (by rw [List.length_drop, List.length_cons] at *; omega), List.length_drop]
    simp only [List.length_cons]
    omega

/-! ### What may be saved -/

def overM (m : List Int) : Bool := (m.drop 120).any fun x => x != 0
def oddM (n : Nat) (m : List Int) : Bool := m.any fun x => x != 0 && !ownI n x

theorem cont1 (m : List Int) (hm : m.length ≤ 1000000) : slices_ContainsFunc_int_int_1 m = some (m.any fun x => x != 0) := by
  have := any_loop (f := slices_IndexFunc_int_int_1.l1) m 0 (fun x => x != 0) (fun i => (m, (m.length : Int), (i : Int))) (fun i hi => by
    unfold slices_IndexFunc_int_int_1.l1 runs_may_1
    dsimp only
    rw [if_pos (by simpa using hi), if_pos (by omega), Int.toNat_natCast, Option.bind_some, wrap_succ (by omega)]) (by
    unfold slices_IndexFunc_int_int_1.l1
    dsimp only
    rw [if_neg (by simp)])
  unfold slices_ContainsFunc_int_int_1 slices_IndexFunc_int_int_1
  exact this

section
variable {n : Nat} {xs : List Blk} {w : Loo} (h : Disk 2 n xs w) (c u : Int) (p1 : Bool) (p2 : Int)
include h

theorem cont2 (m : List Int) (hm : m.length ≤ 1000000) : slices_ContainsFunc_int_int_2 (m, 2, (n : Int), 0) = some (oddM n m) := by
  have := any_loop (f := slices_IndexFunc_int_int_2.l1) m 0 (fun x => x != 0 && !ownI n x) (fun i => (m, (2, (n : Int), 0), (m.length : Int), (i : Int))) (fun i hi => by
    unfold slices_IndexFunc_int_int_2.l1 runs_may_2
    dsimp only
    rw [if_pos (by simpa using hi), if_pos (by omega), Int.toNat_natCast]
    by_cases h0 : (m.getD i 0 != 0) = true
    · rw [if_pos h0, owned_s h, Option.bind_some, Option.bind_some, h0, Bool.true_and, wrap_succ (by omega)]
    · rw [if_neg h0, Option.bind_some, if_neg (by decide), wrap_succ (by omega), if_neg (by simp only [Bool.not_eq_true] at h0; rw [h0]; simp)]) (by
    unfold slices_IndexFunc_int_int_2.l1
    dsimp only
    rw [if_neg (by simp)])
  unfold slices_ContainsFunc_int_int_2 slices_IndexFunc_int_int_2
  exact this

theorem may_s (m : List Int) (hm : m.length ≤ 1000000) : runs_may ((2, (n : Int), 0), m) = some (if overM m = true then 12 else if oddM n m = true then 15 else 0) := by
  unfold runs_may
  dsimp only
  by_cases hl : (m.length : Int) > 120
  · rw [if_pos (by simpa using hl), if_pos (by omega), cont1 _ (by rw [List.length_drop]; omega), Option.bind_some]
    unfold overM
    by_cases ho : ((m.drop 120).any fun x => x != 0) = true
    · rw [if_pos ho, if_pos ho]
      rfl
    · rw [if_neg ho, if_neg ho, Option.bind_some]
      dsimp only
      rw [cont2 h m hm, Option.bind_some]
      split <;> rfl
  · rw [if_neg (by simpa using hl), Option.bind_some]
    dsimp only
    rw [cont2 h m hm, Option.bind_some]
    have ho : overM m = false := by
      unfold overM
      rw [List.drop_of_length_le (by omega)]
      rfl
    rw [ho]
    cases oddM n m <;> rfl

/-! ### Blocks are given back, taken, written -/

omit h in
theorem drops_loop (l : Pg) (pp : List (Pg × Int)) (k : Card) (t : List Int) : ∀ (bs pre : List Int) (w : Loo), Disk 2 n xs w → pre ++ bs = t → t.length ≤ 1000000 → (∀ b ∈ bs, ownI n b = true ∧ isM (mkW xs w) b = true) → bs.Nodup →
    loopO runs_Save.l1 (((p1, p2), w, (c, u), xs, [], k, zeroC), l, pp, t, (t.length : Int), (pre.length : Int)) = some (.inl (((p1, p2), dropsW xs w bs, (c, u), xs, [], k, zeroC), l, pp))
  | [], pre, w, hw, ht, _, _, _ => by
    refine loopO_inr ?_
    obtain ⟨k1, k2, k3, k4, k5, k6, k7, k8, k9⟩ := k
    unfold runs_Save.l1 zeroC
    dsimp only
    rw [if_neg (by rw [← ht]; simp)]
    rfl
  | b :: bs, pre, w, hw, ht, htl, hu, hn => by
    have hr := hw.room
    obtain ⟨hb1, hb2⟩ := hu b List.mem_cons_self
    have hnd := List.nodup_cons.1 hn
    have hlen : pre.length < t.length := by rw [← ht]; simp
    have hg : t.getD pre.length 0 = b := by rw [← ht]; simp [List.getD]
    have step : runs_Save.l1 (((p1, p2), w, (c, u), xs, [], k, zeroC), l, pp, t, (t.length : Int), (pre.length : Int)) = some (.inl (((p1, p2), dropW xs w b, (c, u), xs, [], k, zeroC), l, pp, t, (t.length : Int), (((pre ++ [b]).length : Nat) : Int))) := by
      obtain ⟨k1, k2, k3, k4, k5, k6, k7, k8, k9⟩ := k
      unfold runs_Save.l1 zeroC
      dsimp only
      rw [if_pos (by simpa using hlen), if_pos (by omega), Int.toNat_natCast, hg, drop_s hw, if_pos ⟨hb1, hb2⟩, Option.bind_some]
      dsimp only
      rw [if_neg (by decide), wrap_succ (by omega), List.length_append, List.length_singleton]
    rw [loopO_inl step]
    exact drops_loop l pp k t bs (pre ++ [b]) (dropW xs w b) (hw.drop b) (by rw [← ht]; simp) htl (fun x hx => ⟨(hu x (List.mem_cons_of_mem _ hx)).1, by
      rw [isM_drop hw hb1, if_neg (fun e => hnd.1 (by rw [← e]; exact hx))]
      exact (hu x (List.mem_cons_of_mem _ hx)).2⟩) hnd.2

omit h in
theorem take_loop (t : Int) : ∀ (k i : Nat) (w : Loo) (acc : List Int), Disk 2 n xs w → k ≤ freeS n (mkW xs w) → t = ((i + k : Nat) : Int) → acc.length = i → i + k ≤ 1000000 →
    loopO runs_take.l1 (((p1, p2), w, (c, u), xs, [], acc), t, (i : Int)) = some (.inl ((p1, p2), (takesW xs n k w).1, (c, u), xs, [], acc ++ (takesW xs n k w).2))
  | 0, i, w, acc, hw, _, ht, _, _ => by
    refine loopO_inr ?_
    unfold runs_take.l1
    dsimp only
    rw [if_neg (by rw [ht]; simp), takesW, List.append_nil]
  | k + 1, i, w, acc, hw, hk, ht, ha, hb => by
    have hr := hw.room
    obtain ⟨a, ha1, a1, a2, a3⟩ := firstF_some (m := mkW xs w) (n := n) (by omega)
    have hft := freeS_take hw.mlen hr.2 a1 a2 a3
    rw [← take_mk] at hft
    have step : runs_take.l1 (((p1, p2), w, (c, u), xs, [], acc), t, (i : Int)) = some (.inl (((p1, p2), takeW xs w a, (c, u), xs, [], acc ++ [(a : Int)]), t, ((i + 1 : Nat) : Int))) := by
      unfold runs_take.l1
      dsimp only
      rw [if_pos (by rw [ht, decide_eq_true_eq]; omega), take_s hw, ha1, Option.bind_some]
      dsimp only
      rw [if_neg (by decide), if_pos (room (by decide) (by rw [List.length_singleton]; omega)), wrap_succ (by omega)]
    rw [loopO_inl step, take_loop t k (i + 1) (takeW xs w a) (acc ++ [(a : Int)]) (hw.take a1 a2) (by omega) (by rw [ht]; omega) (by rw [List.length_append, List.length_singleton, ha]) (by omega)]
    rw [show takesW xs n (k + 1) w = ((takesW xs n k (takeW xs w a)).1, (a : Int) :: (takesW xs n k (takeW xs w a)).2) by rw [takesW, ha1]]
    rw [List.append_assoc]
    rfl

theorem takes_s (k : Nat) (hk : k ≤ freeS n (mkW xs w)) (hk2 : k ≤ 400) : runs_take (((p1, p2), w, (c, u), xs, []), (k : Int)) = some (((p1, p2), (takesW xs n k w).1, (c, u), xs, []), (takesW xs n k w).2 ++ [0], 0) := by
  have hlen := (takes_ok k w h hk).2.1
  unfold runs_take
  dsimp only
  rw [show (0 : Int) = ((0 : Nat) : Int) from rfl, take_loop c u p1 p2 (k : Int) k 0 w [] h hk (by omega) rfl (by omega), Option.bind_some]
  dsimp only
  rw [List.nil_append, if_pos (room (by decide) (by rw [hlen, List.length_singleton]; omega))]

/-- Pages are written, each into its block. -/
def writesW : Loo → List Pg → List Int → Loo
  | w, p :: ps, b :: bs => writesW (mp w b (pageB p (bs.headD 0))) ps bs
  | w, _, _ => w

omit h in
theorem writes_loop (l : Pg) (k : Card) (all : List (Pg × Int)) (blocks : List Int) : ∀ (ps : List Pg) (bs : List Int) (i : Nat) (w : Loo), Disk 2 n xs w → (∀ b ∈ bs, ownI n b = true) → bs.length = ps.length → (∀ p ∈ ps, p.length ≤ 20 ∧ ∀ r ∈ p, small r) →
    all.length = i + ps.length → blocks.drop i = bs ++ [0] → all.drop i = ps.map (fun p => (p, (0 : Int))) → all.length ≤ 400 →
    loopO runs_Save.l2 (((p1, p2), w, (c, u), xs, [], k, zeroC), l, blocks, all, (all.length : Int), (i : Int)) = some (.inl (((p1, p2), writesW w ps bs, (c, u), xs, [], k, zeroC), l, blocks))
  | [], bs, i, w, hw, _, hb, _, hal, _, _, _ => by
    refine loopO_inr ?_
    obtain ⟨k1, k2, k3, k4, k5, k6, k7, k8, k9⟩ := k
    unfold runs_Save.l2 zeroC
    dsimp only
    rw [if_neg (by rw [hal]; simp)]
    cases bs <;> rfl
  | p :: ps, [], i, w, hw, _, hb, _, _, _, _, _ => by simp at hb
  | p :: ps, b :: bs, i, w, hw, ho, hb, hp, hal, hbl, hall, h4 => by
    have hr := hw.room
    have hob := ho b List.mem_cons_self
    have hob' := hob
    unfold ownI at hob'
    rw [decide_eq_true_eq] at hob'
    obtain ⟨hp1, hp2⟩ := hp p List.mem_cons_self
    rw [List.length_cons] at hal
    have e1 : all.getD i ([], 0) = (p, 0) := by
      have : (all.drop i)[0]? = some (p, (0 : Int)) := by rw [hall]; rfl
      rw [List.getElem?_drop, Nat.add_zero] at this
      simp [List.getD, this]
    have e2 : blocks.getD i 0 = b := by
      have : (blocks.drop i)[0]? = some b := by rw [hbl]; rfl
      rw [List.getElem?_drop, Nat.add_zero] at this
      simp [List.getD, this]
    have e3 : blocks.getD (i + 1) 0 = bs.headD 0 := by
      have : (blocks.drop i)[1]? = some (bs.headD 0) := by
        rw [hbl]
        cases bs <;> rfl
      rw [List.getElem?_drop] at this
      simp [List.getD, this]
    have hblen : i + 1 < blocks.length := by
      have := congrArg List.length hbl
      rw [List.length_drop] at this
      simp at this
      omega
    have hnx : 0 ≤ bs.headD 0 ∧ bs.headD 0 ≤ 65535 := by
      cases bs with
      | nil => simp
      | cons q qs =>
        have := ho q (List.mem_cons_of_mem _ List.mem_cons_self)
        unfold ownI at this
        rw [decide_eq_true_eq] at this
        simp only [List.headD_cons]
        omega
    have hpl := pageB_len p (bs.headD 0) hp1
    have step : runs_Save.l2 (((p1, p2), w, (c, u), xs, [], k, zeroC), l, blocks, all, (all.length : Int), (i : Int)) = some (.inl (((p1, p2), mp w b (pageB p (bs.headD 0)), (c, u), xs, [], k, zeroC), l, blocks, all, (all.length : Int), ((i + 1 : Nat) : Int))) := by
      obtain ⟨k1, k2, k3, k4, k5, k6, k7, k8, k9⟩ := k
      unfold runs_Save.l2 zeroC
      dsimp only
      have ew : IntKind.i64.wrap ((i : Int) + 1) = ((i + 1 : Nat) : Int) := wrap_succ (by omega)
      rw [if_pos (by rw [decide_eq_true_eq]; omega), if_pos (by omega), ew, if_pos (by omega), Int.toNat_natCast, Int.toNat_natCast, e1, e2, e3, pw_s p _ 0 hp1 hp2 hnx, Option.bind_some]
      dsimp only
      rw [if_pos (by decide), if_pos (by omega), write_s hw _ _ _ _ b _ (by omega) (there_own b hob'), Option.bind_some, wholeS_id _ hpl]
      dsimp only
      rw [if_neg (by decide)]
    rw [loopO_inl step]
    exact writes_loop l k all blocks ps bs (i + 1) _ (hw.put (there_own b hob') (by omega) hpl) (fun x hx => ho x (List.mem_cons_of_mem _ hx)) (by simpa using hb) (fun q hq => hp q (List.mem_cons_of_mem _ hq)) (by omega) (by
      have := congrArg (List.drop 1) hbl
      rw [List.drop_drop] at this
      simpa using this) (by
      have := congrArg (List.drop 1) hall
      rw [List.drop_drop] at this
      simpa using this) h4
end

end Go.Proofs.YtlbammfnkphajaaGreatDoor.Abs
