/- Chains: plain laws, fitted. -/
import Derived.Test.YtlbammfnkphajaaGreatDoorChA
namespace Go.Proofs.YtlbammfnkphajaaGreatDoor.Abs
open Go
set_option linter.unusedVariables false
attribute [-simp] List.getD_eq_getElem?_getD

abbrev DlT := (Bool × Int) × Loo × (Int × Int) × List Blk × Loo

/-- A disk of so many blocks, of such a format, in a deal. -/
structure Disk (f : Int) (n : Nat) (xs : List Blk) (w : Loo) : Prop where
  full : Full n xs
  wf : WfW n w
  crown : getW xs w 0 = (wrK (f, (n : Int), 0)).1
  fmt : f = 1 ∨ f = 2
  room : 64 ≤ n ∧ n ≤ 400

def mkW (xs : List Blk) (w : Loo) : Blk := getW xs w 42

section
variable {f : Int} {n : Nat} {xs : List Blk} {w : Loo} (h : Disk f n xs w)
include h

theorem Disk.right : rightK (f, (n : Int), 0) = true := by
  have hr := h.room
  have hf := h.fmt
  unfold rightK
  dsimp only
  rw [decide_eq_true (p := 64 ≤ (n : Int) ∧ (n : Int) ≤ 400) (by omega), decide_eq_true (p := f = 1 ∨ f = 2) hf]
  rfl

theorem Disk.mlen : (mkW xs w).length = 128 := h.full.get h.wf (by have := h.room; omega)
theorem Disk.there42 : thereS n 42 = true := by
  have := h.room
  unfold thereS
  rw [decide_eq_true_eq]
  omega
omit h in
theorem there_own (i : Int) (hi : 51 ≤ i ∧ i < (n : Int)) : thereS n i = true := by
  unfold thereS
  rw [decide_eq_true_eq]
  omega

theorem Disk.read0 : rdK2 n (getW xs w 0) = ((f, (n : Int), 0), 0) := by
  have hr := h.room
  have hk := h.right
  have hl := crownBy_len hk
  have hw : (wrK (f, (n : Int), 0)).1 = wholeS (crownBy (f, (n : Int), 0)) := by unfold wrK; rw [if_pos hk]
  have hs := h.crown
  have hco : crownOf (getW xs w 0) = (f, (n : Int), 0) := by
    unfold crownOf
    rw [hs, hw, wholeS_short _ (by omega)]
    have hfit := rightK_fit hk
    obtain ⟨e, h1, h2⟩ := enc_fit _ _ hfit
    have hd : (crownBy (f, (n : Int), 0) ++ List.replicate (128 - (crownBy (f, (n : Int), 0)).length) 0).drop 10 = u8s e ++ List.replicate (128 - (crownBy (f, (n : Int), 0)).length) 0 := by
      rw [h2]
      unfold crownBy
      rw [List.append_assoc, List.drop_append_of_le_length (by decide)]
      rfl
    rw [hd, rdS_enc wsK (vsK (f, (n : Int), 0)) e _ rfl rfl h1]
    rfl
  have hrd : rdK (getW xs w 0) = ((f, (n : Int), 0), 0) := by
    unfold rdK
    rw [hco, if_pos ⟨by rw [hs, hw]; exact wholeS_len _, hk, hs.symm⟩]
  unfold rdK2
  rw [hrd, if_pos ⟨rfl, Int.le_refl _⟩]

variable (c u : Int) (p1 : Bool) (p2 : Int)

theorem crown_s : deal_Deal_Crown (((xs, [], c, u), p1, p2), w) = some ((f, (n : Int), 0), 0) := by
  rw [crown_d h.full h.room.1 h.wf, h.read0]

theorem open_s : stock_open ((p1, p2), w, (c, u), xs, []) = some (.inr (((p1, p2), w, (c, u), xs, [], f, (n : Int), 0, mkW xs w), 0)) := by
  unfold stock_open
  dsimp only
  rw [crown_s h, Option.bind_some]
  dsimp only
  rw [if_neg (by decide), read_d h.full.len, if_pos h.there42, Option.bind_some]
  dsimp only
  rw [if_neg (by decide)]
  rfl

theorem owned_s (i : Int) : crown_Owned ((f, (n : Int), 0), i) = some (ownI n i) := by
  unfold crown_Owned ownI
  dsimp only
  rw [crownRight_is, h.right, Option.bind_some, if_pos rfl]
  by_cases h1 : i ≥ 51
  · rw [if_pos (by simpa using h1)]
    congr 1
    exact decide_eq_decide.2 ⟨fun q => ⟨h1, q⟩, fun q => q.2⟩
  · rw [if_neg (by simpa using h1), decide_eq_false (by omega)]

theorem write_s (i : Int) (b : Blk) (hb : b.length ≤ 128) (hi : thereS n i = true) : deal_Deal_Write_1 (((p1, p2), w, (c, u), xs, []), i, b) = some (((p1, p2), mp w i (wholeS b), (c, u), xs, []), 0) := by
  rw [write_d h.full.len, if_pos ⟨hi, hb⟩, if_pos ⟨hi, hb⟩]

omit h in
/-- Something is written that is no crown. -/
theorem Disk.put (h : Disk f n xs w) {i : Int} (hi : thereS n i = true) (h0 : i ≠ 0) {b : Blk} (hb : b.length = 128) : Disk f n xs (mp w i b) :=
  ⟨h.full, h.wf.put hi hb, by rw [get_put, if_neg (fun q => h0 q.symm)]; exact h.crown, h.fmt, h.room⟩

/-! ### A block is given back -/

def dropW (xs : List Blk) (w : Loo) (i : Int) : Loo := mp w 42 (setM (mkW xs w) i false)

omit h in
theorem Disk.drop (h : Disk f n xs w) (i : Int) : Disk f n xs (dropW xs w i) := h.put h.there42 (by decide) (by rw [setM_len]; exact h.mlen)

omit h in
theorem drop_get (xs : List Blk) (w : Loo) (i j : Int) : getW xs (dropW xs w i) j = if j = 42 then setM (mkW xs w) i false else getW xs w j := get_put xs w 42 _ j

omit h in
theorem drop_mk (xs : List Blk) (w : Loo) (i : Int) : mkW xs (dropW xs w i) = setM (mkW xs w) i false := by
  unfold mkW
  rw [drop_get, if_pos rfl]
  rfl

theorem drop_s (i : Int) : stock_Drop (((p1, p2), w, (c, u), xs, []), i) = some (if ownI n i = true ∧ isM (mkW xs w) i = true then (((p1, p2), dropW xs w i, (c, u), xs, []), 0) else (((p1, p2), w, (c, u), xs, []), 15)) := by
  have hm := h.mlen
  unfold stock_Drop
  dsimp only
  rw [open_s h, Option.bind_some]
  dsimp only
  rw [if_neg (by decide), owned_s h, Option.bind_some]
  by_cases h1 : ownI n i = true
  · rw [h1, if_pos (by decide), Is_is _ _ (by omega), Option.bind_some]
    cases hi : isM (mkW xs w) i with
    | false => rw [if_pos (by decide), if_neg (fun q => by cases q.2)]
    | true =>
      rw [if_neg (by decide), if_pos ⟨rfl, rfl⟩, Set_is _ _ _ (by omega), Option.bind_some, write_s h _ _ _ _ 42 _ (by rw [setM_len]; omega) h.there42, Option.bind_some, wholeS_id _ (by rw [setM_len]; exact hm)]
      rfl
  · have h2 : ownI n i = false := by simpa using h1
    rw [h2, if_neg (by decide), if_neg (fun q => by cases q.1)]

theorem free_s : stock_Free ((p1, p2), w, (c, u), xs, []) = some (((p1, p2), w, (c, u), xs, []), (n : Int) - (cntF (usedF (mkW xs w)) n : Int), 0) := by
  have hr := h.room
  have hm := h.mlen
  unfold stock_Free
  dsimp only
  rw [open_s h, Option.bind_some]
  dsimp only
  obtain ⟨_, _, _, l2, _⟩ := lim_is (n : Int)
  have hlim : limN (n : Int) = n := by have := l2 (by omega) (by omega); omega
  have hc := cnt_le (lowM (mkW xs w)) n
  rw [if_neg (by decide), stockLow_is _ hm, Option.bind_some, Count_is _ _ (by rw [low_len]; omega), Option.bind_some, hlim, wrap64 (by omega) (by omega), cnt_low _ hm]

theorem used_s (i : Int) (hi : ownI n i = true) : stock_Used (((p1, p2), w, (c, u), xs, []), i) = some (((p1, p2), w, (c, u), xs, []), isM (mkW xs w) i, 0) := by
  have hm := h.mlen
  unfold stock_Used
  dsimp only
  rw [open_s h, Option.bind_some]
  dsimp only
  rw [if_neg (by decide), owned_s h, hi, Option.bind_some, if_neg (by decide), Is_is _ _ (by omega), Option.bind_some]

/-! ### A block is taken -/

def takeW (xs : List Blk) (w : Loo) (a : Nat) : Loo := mp (mp w (a : Int) zeroS) 42 (setM (mkW xs w) (a : Int) true)

omit h in
theorem take_get (xs : List Blk) (w : Loo) (a : Nat) (j : Int) : getW xs (takeW xs w a) j = if j = 42 then setM (mkW xs w) (a : Int) true else if j = (a : Int) then zeroS else getW xs w j := by
  unfold takeW
  rw [get_put, get_put]
omit h in
theorem take_mk (xs : List Blk) (w : Loo) (a : Nat) : mkW xs (takeW xs w a) = setM (mkW xs w) (a : Int) true := by
  unfold mkW
  rw [take_get, if_pos rfl]
  rfl
omit h in
theorem Disk.take (h : Disk f n xs w) {a : Nat} (h1 : 51 ≤ a) (h2 : a < n) : Disk f n xs (takeW xs w a) :=
  (h.put (there_own (a : Int) (by omega)) (by omega) zero_len).put h.there42 (by decide) (by rw [setM_len]; exact h.mlen)

theorem use_s (a : Nat) (h1 : 51 ≤ a) (h2 : a < n) : stock_store_use (((f, (n : Int), 0, mkW xs w), (p1, p2), w, (c, u), xs, []), (a : Int), 1) = some (((f, (n : Int), 0, setM (mkW xs w) (a : Int) true), (p1, p2), takeW xs w a, (c, u), xs, []), 0) := by
  have hr := h.room
  have hm := h.mlen
  have ht := there_own (n := n) (a : Int) (by omega)
  have s1 : stock_store_use.l1 (((f, (n : Int), 0, mkW xs w), (p1, p2), w, (c, u), xs, []), (a : Int), 1, (a : Int)) = some (.inl (((f, (n : Int), 0, setM (mkW xs w) (a : Int) true), (p1, p2), mp w (a : Int) zeroS, (c, u), xs, []), (a : Int), 1, ((a + 1 : Nat) : Int))) := by
    unfold stock_store_use.l1
    dsimp only
    rw [if_pos (by rw [wrap64 (by omega) (by omega), decide_eq_true_eq]; omega), Set_is _ _ _ (by omega), Option.bind_some, write_s h _ _ _ _ _ [] (by simp) ht, Option.bind_some]
    dsimp only
    rw [if_neg (by decide), wrap_succ (by omega)]
    rfl
  have s2 : stock_store_use.l1 (((f, (n : Int), 0, setM (mkW xs w) (a : Int) true), (p1, p2), mp w (a : Int) zeroS, (c, u), xs, []), (a : Int), 1, ((a + 1 : Nat) : Int)) = some (.inr (.inl ((f, (n : Int), 0, setM (mkW xs w) (a : Int) true), (p1, p2), mp w (a : Int) zeroS, (c, u), xs, []))) := by
    unfold stock_store_use.l1
    dsimp only
    rw [if_neg (by rw [wrap64 (by omega) (by omega), decide_eq_true_eq]; omega)]
  unfold stock_store_use
  dsimp only
  rw [loopO_inl s1, loopO_inr s2, Option.bind_some]
  dsimp only
  rw [write_s (h.put ht (by omega) zero_len) _ _ _ _ 42 _ (by rw [setM_len]; omega) h.there42, Option.bind_some, wholeS_id _ (by rw [setM_len]; exact hm)]
  rfl

/-- The first free block. -/
def firstF (m : Blk) (n : Nat) : Option Nat := runS m 51 n 1
omit h in
theorem firstF_spec (m : Blk) (n : Nat) : (∃ a, firstF m n = some a ∧ 51 ≤ a ∧ a < n ∧ isM m (a : Int) = false) ∨ (firstF m n = none ∧ ∀ q : Nat, 51 ≤ q → q < n → isM m (q : Int) = true) := by
  rcases runS_spec m 51 n 1 with ⟨i, h1, h2, h3, h4⟩ | ⟨h1, h2⟩
  · obtain ⟨j1, j2, j3⟩ := (isRun_iff ..).1 h3
    exact .inl ⟨i, h1, j1, by omega, j3 i (Nat.le_refl _) (by omega)⟩
  · refine .inr ⟨h1, fun q q1 q2 => ?_⟩
    cases hm : isM m (q : Int) with
    | true => rfl
    | false =>
      have := h2 q q2
      rw [(isRun_iff ..).2 ⟨q1, by omega, fun p p1 p2 => by
        have : p = q := by omega
        rw [this]; exact hm⟩] at this
      cases this

theorem take_s : stock_Take ((p1, p2), w, (c, u), xs, []) = some (match firstF (mkW xs w) n with | some a => (((p1, p2), takeW xs w a, (c, u), xs, []), (a : Int), 0) | none => (((p1, p2), w, (c, u), xs, []), 0, 10)) := by
  have hr := h.room
  have hm := h.mlen
  unfold stock_Take stock_Run
  dsimp only
  rw [open_s h, Option.bind_some]
  dsimp only
  rw [if_neg (by decide), if_neg (by decide)]
  have hrow : stock_store_row (((((xs, [], c, u), p1, p2), w), f, (n : Int), 0, mkW xs w), 1) = some (match firstF (mkW xs w) n with | some a => ((a : Int), 1) | none => (0, 0)) := by
    unfold stock_store_row
    dsimp only
    rw [Run_run (mkW xs w) n 1 hm hr.2 (by decide) (by decide), Option.bind_some]
    have e1 : (1 : Int).toNat = 1 := rfl
    rw [e1]
    unfold firstF
    cases hf : runS (mkW xs w) 51 n 1 with
    | some a => rfl
    | none =>
      dsimp only
      rw [if_neg (by simp), stockLow_is _ hm, Option.bind_some]
      obtain ⟨b, hb, h2⟩ := best_of (mkW xs w) n hm hr.2
      have hb0 : b = 0 := by
        rcases Nat.eq_zero_or_pos b with q | q
        · exact q
        · exact absurd hf (run_down (by omega) q (hb.some q))
      subst hb0
      rw [h2]
      rfl
  rw [hrow, Option.bind_some]
  rcases firstF_spec (mkW xs w) n with ⟨a, h1, h2, h3, h4⟩ | ⟨h1, h2⟩
  · rw [h1]
    dsimp only
    rw [if_neg (by decide), use_s h _ _ _ _ a h2 h3, Option.bind_some]
    rfl
  · rw [h1]
    rfl
end

/-! ### How many are free -/

def freeS (n : Nat) (m : Blk) : Nat := n - cntF (usedF m) n

theorem cntF_le (f : Nat → Bool) : ∀ L, cntF f L ≤ L
  | 0 => Nat.le_refl _
  | L + 1 => by
    have := cntF_le f L
    rw [cntF]
    cases f L <;> simp <;> omega

theorem freeS_int (n : Nat) (m : Blk) : (n : Int) - (cntF (usedF m) n : Int) = (freeS n m : Int) := by
  have := cntF_le (usedF m) n
  unfold freeS
  omega

theorem freeS_drop {m : Blk} (hm : m.length = 128) {n : Nat} (hn : n ≤ 400) {a : Nat} (h1 : 51 ≤ a) (h2 : a < n) (hu : isM m (a : Int) = true) : freeS n (setM m (a : Int) false) = freeS n m + 1 := by
  have his := fun q => isM_set m (a : Int) q false (by rw [hm]; omega)
  have hcnt := cntF_clear (f := usedF m) (g := usedF (setM m (a : Int) false)) (a := a) (fun q => by
    unfold usedF
    rw [his]
    by_cases e : q = a
    · rw [if_pos e, if_pos (by omega), decide_eq_false (by omega)]; rfl
    · rw [if_neg e, if_neg (by omega)]) (by unfold usedF; rw [hu, Bool.or_true]) n
  rw [if_neg (by omega)] at hcnt
  have := cntF_le (usedF m) n
  unfold freeS
  omega

theorem freeS_take {m : Blk} (hm : m.length = 128) {n : Nat} (hn : n ≤ 400) {a : Nat} (h1 : 51 ≤ a) (h2 : a < n) (hu : isM m (a : Int) = false) : freeS n (setM m (a : Int) true) + 1 = freeS n m := by
  have his := fun q => isM_set m (a : Int) q true (by rw [hm]; omega)
  have hcnt := cntF_set (f := usedF m) (g := usedF (setM m (a : Int) true)) (a := a) (k := 1) (fun q => by
    unfold usedF
    rw [his]
    by_cases e : q = a
    · rw [if_pos (by omega), if_pos (by omega), Bool.or_true]
    · rw [if_neg (by omega), if_neg (by omega)]) (fun q q1 q2 => by
    have : q = a := by omega
    subst this
    unfold usedF
    rw [hu, decide_eq_false (by omega)]
    rfl) n
  have hle := cntF_le (usedF (setM m (a : Int) true)) n
  unfold freeS
  split at hcnt
  · omega
  · split at hcnt <;> omega

theorem freeS_zero {m : Blk} {n : Nat} (h : ∀ q : Nat, 51 ≤ q → q < n → isM m (q : Int) = true) : freeS n m = 0 := by
  have := cntF_all (f := usedF m) n fun q hq => by
    unfold usedF
    by_cases e : q < 51
    · rw [decide_eq_true e]; rfl
    · rw [decide_eq_false e, h q (by omega) hq]; rfl
  unfold freeS
  omega

theorem firstF_some {m : Blk} {n : Nat} (h : 0 < freeS n m) : ∃ a, firstF m n = some a ∧ 51 ≤ a ∧ a < n ∧ isM m (a : Int) = false := by
  rcases firstF_spec m n with q | ⟨_, q⟩
  · exact q
  · rw [freeS_zero q] at h; omega

/-! ### Rows of blocks are given back, taken -/

def dropsW (xs : List Blk) : Loo → List Int → Loo
  | w, [] => w
  | w, b :: bs => dropsW xs (dropW xs w b) bs

theorem isM_drop {xs : List Blk} {w : Loo} {f : Int} {n : Nat} (h : Disk f n xs w) {b : Int} (hb : ownI n b = true) (q : Int) : isM (mkW xs (dropW xs w b)) q = if q = b then false else isM (mkW xs w) q := by
  have hr := h.room
  unfold ownI at hb
  rw [decide_eq_true_eq] at hb
  rw [drop_mk, isM_set _ _ _ _ (by rw [h.mlen]; omega)]

theorem drops_get {xs : List Blk} (j : Int) (hj : j ≠ 42) : ∀ (bs : List Int) (w : Loo), getW xs (dropsW xs w bs) j = getW xs w j
  | [], _ => rfl
  | b :: bs, w => by rw [dropsW, drops_get j hj bs, drop_get, if_neg hj]

/-- What holds when a row of blocks is given back. -/
theorem drops_ok {f : Int} {n : Nat} {xs : List Blk} : ∀ (bs : List Int) (w : Loo), Disk f n xs w → (∀ b ∈ bs, ownI n b = true ∧ isM (mkW xs w) b = true) → bs.Nodup →
    Disk f n xs (dropsW xs w bs) ∧ (∀ q : Int, isM (mkW xs (dropsW xs w bs)) q = if q ∈ bs then false else isM (mkW xs w) q) ∧ freeS n (mkW xs (dropsW xs w bs)) = freeS n (mkW xs w) + bs.length
  | [], w, h, _, _ => ⟨h, fun q => by rw [if_neg (by simp)]; rfl, rfl⟩
  | b :: bs, w, h, hu, hn => by
    have hr := h.room
    obtain ⟨hb1, hb2⟩ := hu b List.mem_cons_self
    have hb := hb1
    unfold ownI at hb
    rw [decide_eq_true_eq] at hb
    have hnd := List.nodup_cons.1 hn
    obtain ⟨d1, d2, d3⟩ := drops_ok bs (dropW xs w b) (h.drop b) (fun x hx => ⟨(hu x (List.mem_cons_of_mem _ hx)).1, by
      rw [isM_drop h hb1, if_neg (fun e => hnd.1 (by rw [← e]; exact hx))]
      exact (hu x (List.mem_cons_of_mem _ hx)).2⟩) hnd.2
    refine ⟨d1, fun q => ?_, ?_⟩
    · rw [dropsW, d2, isM_drop h hb1]
      by_cases e : q = b
      · rw [if_pos e, if_pos (c := q ∈ b :: bs) (by rw [e]; exact List.mem_cons_self)]
        split <;> rfl
      · rw [if_neg e]
        by_cases m : q ∈ bs
        · rw [if_pos m, if_pos (List.mem_cons_of_mem _ m)]
        · rw [if_neg m, if_neg (fun k => by
            rcases List.mem_cons.1 k with k | k
            · exact e k
            · exact m k)]
    · rw [dropsW, d3, drop_mk]
      have := freeS_drop h.mlen hr.2 (a := b.toNat) (by omega) (by omega) (by rw [show ((b.toNat : Nat) : Int) = b by omega]; exact hb2)
      rw [show ((b.toNat : Nat) : Int) = b by omega] at this
      rw [this, List.length_cons]
      omega

/-- So many blocks are taken. -/
def takesW (xs : List Blk) (n : Nat) : Nat → Loo → Loo × List Int
  | 0, w => (w, [])
  | k + 1, w => match firstF (mkW xs w) n with
    | some a => let r := takesW xs n k (takeW xs w a); (r.1, (a : Int) :: r.2)
    | none => (w, [])

theorem isM_take {xs : List Blk} {w : Loo} {f : Int} {n : Nat} (h : Disk f n xs w) {a : Nat} (h1 : 51 ≤ a) (h2 : a < n) (q : Int) : isM (mkW xs (takeW xs w a)) q = if q = (a : Int) then true else isM (mkW xs w) q := by
  have hr := h.room
  rw [take_mk, isM_set _ _ _ _ (by rw [h.mlen]; omega)]

end Go.Proofs.YtlbammfnkphajaaGreatDoor.Abs
