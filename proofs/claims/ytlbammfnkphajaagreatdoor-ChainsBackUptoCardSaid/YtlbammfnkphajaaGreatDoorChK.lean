/- Chains: plain laws, fitted. -/
import Derived.Test.YtlbammfnkphajaaGreatDoorChM
namespace Go.Proofs.YtlbammfnkphajaaGreatDoor.Abs
open Go
set_option linter.unusedVariables false
attribute [-simp] List.getD_eq_getElem?_getD

def zeros (s : List UInt8) : Bool := s.all fun b => b == 0

theorem byte0 (b : UInt8) : ((b.toNat : Int) == 0) = (b == 0) := by
  by_cases h : b = 0
  · subst h; rfl
  · rw [beq_eq_false_iff_ne.2 h, beq_eq_false_iff_ne]
    intro e
    exact h (UInt8.toNat_inj.1 (by simpa using e))

theorem trimR (s : List UInt8) (hs : s.length ≤ 100000) : ∃ r, strings_trimRightByte (s, 0) = some r ∧ r.length ≤ s.length ∧ (zeros s = true → r = []) ∧ (zeros s = false → zeros r = false) := by
  suffices h : ∀ (n : Nat) (s : List UInt8), s.length = n → n ≤ 100000 → ∃ r, loopO strings_trimRightByte.l1 (s, 0) = some r ∧ r.length ≤ s.length ∧ (zeros s = true → r = []) ∧ (zeros s = false → zeros r = false) by
    obtain ⟨r, h1, h2⟩ := h _ s rfl hs
    exact ⟨r, by unfold strings_trimRightByte; simp only; rw [h1]; rfl, h2⟩
  intro n
  induction n with
  | zero =>
    intro s hs _
    have : s = [] := List.length_eq_zero_iff.1 hs
    subst this
    exact ⟨[], loopO_inr (by unfold strings_trimRightByte.l1; simp), Nat.le_refl _, (fun _ => rfl), (fun h => by cases h)⟩
  | succ n ih =>
    intro s hs hn
    have hw : IntKind.i64.wrap ((s.length : Int) - 1) = (n : Int) := by rw [wrap64 (by omega) (by omega)]; omega
    have htk : s = s.take n ++ [s.getD n 0] := by
      rw [← take_succ_getD (by omega) 0, List.take_of_length_le (by omega)]
    have hz : zeros s = (zeros (s.take n) && (s.getD n 0 == 0)) := by
      rw [htk]
      unfold zeros
      rw [List.all_append]
      have e1 : (s.take n ++ [s.getD n 0]).take n = s.take n := by rw [← htk]
      have e2 : (s.take n ++ [s.getD n 0]).getD n 0 = s.getD n 0 := by rw [← htk]
      rw [e1, e2]
      simp
    by_cases hb : s.getD n 0 = 0
    · obtain ⟨r, h1, h2, h3, h4⟩ := ih (s.take n) (by simp; omega) (by omega)
      refine ⟨r, ?_, by simp at h2; omega, fun h => h3 (by rw [hz] at h; simp only [Bool.and_eq_true] at h; exact h.1), fun h => h4 (by rw [hz, hb] at h; simpa using h)⟩
      rw [← h1]
      refine loopO_inl ?_
      unfold strings_trimRightByte.l1
      simp only
      rw [if_pos (by simp; omega), hw, if_pos (by omega), getD_nat, byte0, hb, if_pos (by rfl), if_pos (by omega), Int.toNat_natCast]
    · refine ⟨s, loopO_inr ?_, Nat.le_refl _, fun h => by rw [hz] at h; simp [hb] at h, fun h => h⟩
      unfold strings_trimRightByte.l1
      simp only
      rw [if_pos (by simp; omega), hw, if_pos (by omega), getD_nat, byte0, if_neg (by simpa using hb)]

theorem trimL (s : List UInt8) (hs : s.length ≤ 100000) : ∃ r, strings_trimLeftByte (s, 0) = some r ∧ (s = [] → r = []) ∧ (zeros s = false → r ≠ []) := by
  suffices h : ∀ (s : List UInt8), ∃ r, loopO strings_trimLeftByte.l1 (s, 0) = some r ∧ (s = [] → r = []) ∧ (zeros s = false → r ≠ []) by
    obtain ⟨r, h1, h2⟩ := h s
    exact ⟨r, by unfold strings_trimLeftByte; simp only; rw [h1]; rfl, h2⟩
  intro s
  induction s with
  | nil => exact ⟨[], loopO_inr (by unfold strings_trimLeftByte.l1; simp), (fun _ => rfl), (fun h => by cases h)⟩
  | cons b s ih =>
    by_cases hb : b = 0
    · obtain ⟨r, h1, h2, h3⟩ := ih
      refine ⟨r, ?_, (fun h => by cases h), fun h => h3 (by unfold zeros at h ⊢; rw [List.all_cons, hb] at h; simpa using h)⟩
      rw [← h1]
      refine loopO_inl ?_
      unfold strings_trimLeftByte.l1
      simp only
      rw [if_pos (by simp), if_pos (by simp), List.getD_cons_zero, byte0, hb, if_pos (by rfl), if_pos (by simp; omega), List.drop_one, List.tail_cons]
    · refine ⟨b :: s, loopO_inr ?_, (fun h => h), (fun _ h => by cases h)⟩
      unfold strings_trimLeftByte.l1
      simp only
      rw [if_pos (by simp), if_pos (by simp), List.getD_cons_zero, byte0, if_neg (by simpa using hb)]

set_option maxRecDepth 10000 in
theorem trim_is (s : List UInt8) (hs : s.length ≤ 100000) : ∃ r, strings_Trim (s, [0]) = some r ∧ (r == []) = zeros s := by
  unfold strings_Trim
  simp only
  by_cases h0 : s = []
  · subst h0
    exact ⟨[], by rw [if_neg (by decide)], rfl⟩
  · rw [if_pos (by rw [beq_eq_false_iff_ne]; exact h0), if_neg (by decide), if_pos (by decide), if_pos (by decide), Option.bind_some]
    simp only
    rw [if_pos (by decide), if_pos (by decide)]
    obtain ⟨r, h1, h2, h3, h4⟩ := trimR s hs
    obtain ⟨q, k1, k2, k3⟩ := trimL r (by omega)
    refine ⟨q, ?_, ?_⟩
    · change (strings_trimRightByte (s, 0)).bind _ = _
      rw [h1, Option.bind_some, if_pos (by decide)]
      change (strings_trimLeftByte (r, 0)).bind _ = _
      rw [k1]
      rfl
    · cases hz : zeros s with
      | true => rw [k2 (h3 hz)]; rfl
      | false => rw [beq_eq_false_iff_ne]; exact k3 (h4 hz)
def zeroS : Blk := List.replicate 128 0
theorem zero_len : zeroS.length = 128 := by unfold zeroS; simp
theorem whole_nil : wholeS [] = zeroS := rfl
theorem wholeS_id (b : Blk) (h : b.length = 128) : wholeS b = b := by
  unfold wholeS
  rw [List.take_of_length_le (by omega), h]
  simp
theorem wholeS_len (b : Blk) : (wholeS b).length = 128 := by
  unfold wholeS; simp; omega

theorem mg_mp (i : Int) (b : Blk) (j : Int) : ∀ es : Loo, mg (mp es i b) j = if j = i then some b else mg es j
  | [] => by
    rw [show mp [] i b = [(i, b)] from rfl, mg_cons]
  | e :: es => by
    rw [mp_cons]
    by_cases h : i = e.1
    · rw [if_pos h, mg_cons, mg_cons]
      by_cases h2 : j = i
      · rw [if_pos h2, if_pos h2]
      · rw [if_neg h2, if_neg h2, if_neg (by rw [← h]; exact h2)]
    · rw [if_neg h, mg_cons, mg_cons, mg_mp i b j es]
      by_cases h2 : j = e.1
      · rw [if_pos h2, if_pos h2, if_neg (by rw [h2]; exact fun q => h q.symm)]
      · rw [if_neg h2, if_neg h2]

theorem setB (a : List Blk) (i j : Nat) (b : Blk) : (a.set i b).getD j [] = if i = j ∧ j < a.length then b else a.getD j [] := by
  simp only [List.getD, List.getElem?_set]
  by_cases h : i = j
  · subst h
    by_cases h2 : i < a.length
    · simp [h2]
    · simp [h2]
  · simp [h]

def thereS (n : Nat) (i : Int) : Bool := decide (0 ≤ i ∧ i < (n : Int) ∧ (i < 1 ∨ 41 < i))
def getW (xs : List Blk) (w : Loo) (i : Int) : Blk := (mg w i).getD (xs.getD i.toNat [])

theorem there_i {n : Nat} {i : Int} (h : thereS n i = true) : 0 ≤ i ∧ i < (n : Int) ∧ (i < 1 ∨ 41 < i) := of_decide_eq_true h

theorem wholeS_short (s : Blk) (h : s.length ≤ 128) : wholeS s = s ++ List.replicate (128 - s.length) 0 := by
  unfold wholeS
  rw [List.take_of_length_le h]

/-! ### The blocks that are written -/

theorem mp_mem (i : Int) (b : Blk) : ∀ (es : Loo) (e : Int × Blk), e ∈ mp es i b → e = (i, b) ∨ e ∈ es
  | [], e, h => by
    rw [show mp [] i b = [(i, b)] from rfl, List.mem_singleton] at h
    exact .inl h
  | a :: es, e, h => by
    rw [mp_cons] at h
    by_cases q : i = a.1
    · rw [if_pos q] at h
      rcases List.mem_cons.1 h with h | h
      · exact .inl h
      · exact .inr (List.mem_cons_of_mem _ h)
    · rw [if_neg q] at h
      rcases List.mem_cons.1 h with h | h
      · exact .inr (h ▸ List.mem_cons_self)
      · rcases mp_mem i b es e h with h | h
        · exact .inl h
        · exact .inr (List.mem_cons_of_mem _ h)

theorem mp_map (i : Int) (b : Blk) : ∀ es : Loo, (mp es i b).map (·.1) = if i ∈ es.map (·.1) then es.map (·.1) else es.map (·.1) ++ [i]
  | [] => by rw [show mp [] i b = [(i, b)] from rfl]; simp
  | a :: es => by
    rw [mp_cons]
    by_cases q : i = a.1
    · rw [if_pos q]; simp [q]
    · rw [if_neg q, List.map_cons, mp_map i b es]
      by_cases h : i ∈ es.map (·.1)
      · rw [if_pos h, if_pos (by simp only [List.map_cons]; exact List.mem_cons_of_mem _ h)]; rfl
      · rw [if_neg h, if_neg (by simp only [List.map_cons, List.mem_cons]; rintro (e | e); exact q e; exact h e)]; rfl

theorem mg_mem {i : Int} {b : Blk} : ∀ {es : Loo}, mg es i = some b → (i, b) ∈ es
  | [], h => by cases h
  | a :: es, h => by
    rw [mg_cons] at h
    by_cases q : i = a.1
    · rw [if_pos q] at h
      have : b = a.2 := (Option.some.inj h).symm
      rw [q, this]
      exact List.mem_cons_self
    · rw [if_neg q] at h
      exact List.mem_cons_of_mem _ (mg_mem h)

structure WfW (n : Nat) (w : Loo) : Prop where
  keys : ∀ e ∈ w, thereS n e.1 = true ∧ e.2.length = 128
  nodup : (w.map (·.1)).Nodup

theorem WfW.nil (n : Nat) : WfW n [] := ⟨fun e h => by (cases h), by simp⟩
theorem WfW.put {n : Nat} {w : Loo} (h : WfW n w) {i : Int} {b : Blk} (hi : thereS n i = true) (hb : b.length = 128) : WfW n (mp w i b) := by
  refine ⟨fun e he => ?_, ?_⟩
  · rcases mp_mem i b w e he with rfl | he
    · exact ⟨hi, hb⟩
    · exact h.keys e he
  · rw [mp_map]
    by_cases q : i ∈ w.map (·.1)
    · rw [if_pos q]; exact h.nodup
    · rw [if_neg q]
      refine List.nodup_append.2 ⟨h.nodup, by simp, fun a ha b hb => ?_⟩
      rw [List.mem_singleton] at hb
      subst hb
      exact fun e => q (e ▸ ha)

theorem get_put (xs : List Blk) (w : Loo) (i : Int) (b : Blk) (j : Int) : getW xs (mp w i b) j = if j = i then b else getW xs w j := by
  unfold getW
  rw [mg_mp]
  by_cases h : j = i
  · rw [if_pos h, if_pos h]; rfl
  · rw [if_neg h, if_neg h]

/-- Blocks of 128 bytes each. -/
def Full (n : Nat) (xs : List Blk) : Prop := xs.length = n ∧ ∀ i, i < n → (xs.getD i []).length = 128

theorem Full.len {n : Nat} {xs : List Blk} (h : Full n xs) : xs.length = n := h.1
theorem Full.get {n : Nat} {xs : List Blk} (h : Full n xs) {w : Loo} (hw : WfW n w) {i : Int} (hi : 0 ≤ i ∧ i < (n : Int)) : (getW xs w i).length = 128 := by
  unfold getW
  cases hm : mg w i with
  | some b => exact (hw.keys _ (mg_mem hm)).2
  | none => exact h.2 _ (by omega)
theorem Full.set {n : Nat} {xs : List Blk} (h : Full n xs) (i : Nat) {b : Blk} (hb : b.length = 128) : Full n (xs.set i b) := by
  refine ⟨by rw [List.length_set]; exact h.1, fun j hj => ?_⟩
  rw [setB]
  by_cases q : i = j ∧ j < xs.length
  · rw [if_pos q]; exact hb
  · rw [if_neg q]; exact h.2 j hj
/-! ### Reading, writing -/

section
variable {n : Nat} {xs : List Blk} (hl : xs.length = n) (w : Loo) (c u : Int) (p : Bool × Int)
include hl

theorem size_d : log_Log_Size ((xs, [], c, u), p) = some (n : Int) := by
  unfold log_Log_Size slab_Slab_Size
  rw [Option.bind_some, hl]

theorem there_d (i : Int) : deal_written_there ((((xs, [], c, u), p), w), i) = some (thereS n i) := by
  unfold deal_written_there thereS
  dsimp only
  by_cases h1 : i ≥ 0
  · rw [if_pos (by simpa using h1), size_d hl, Option.bind_some]
    by_cases h2 : i < (n : Int)
    · rw [if_pos (by simpa using h2)]
      by_cases h3 : i < 1
      · rw [if_neg (by simpa using h3), decide_eq_true (show 0 ≤ i ∧ i < (n : Int) ∧ (i < 1 ∨ 41 < i) from ⟨h1, h2, .inl h3⟩)]
      · rw [if_pos (by simpa using h3)]
        congr 1
        exact decide_eq_decide.2 ⟨fun q => ⟨h1, h2, .inr q⟩, fun q => by omega⟩
    · rw [if_neg (by simpa using h2), decide_eq_false (by omega)]
  · rw [if_neg (by simpa using h1), decide_eq_false (by omega)]

theorem lread_d (i : Int) (hi : 0 ≤ i ∧ i < (n : Int)) : log_Log_Read (((xs, [], c, u), p), i) = some (xs.getD i.toNat []) := by
  unfold log_Log_Read slab_Slab_Read slab_Slab_there
  dsimp only
  rw [if_pos (show decide (i ≥ 0) = true by rw [decide_eq_true_eq]; exact hi.1), Option.bind_some, if_neg (by simp; omega), if_neg (by rw [show mget (K := I) (V := .str) ([] : Loo) i = none from rfl]; decide), if_pos (by omega)]
  rfl

theorem get_d (i : Int) (hi : 0 ≤ i ∧ i < (n : Int)) : deal_written_get ((((xs, [], c, u), p), w), i) = some (getW xs w i) := by
  have hm : mget (K := I) (V := .str) w i = mg w i := rfl
  unfold deal_written_get getW
  dsimp only
  rw [hm]
  cases mg w i with
  | some v => rfl
  | none =>
    rw [if_neg (by decide), lread_d hl c u p i hi]
    rfl

theorem read_d (i : Int) : deal_Deal_Read ((((xs, [], c, u), p), w), i) = some (if thereS n i = true then (getW xs w i, 0) else ([], 1)) := by
  unfold deal_Deal_Read
  dsimp only
  rw [there_d hl, Option.bind_some]
  cases h : thereS n i with
  | false => rfl
  | true =>
    have := there_i h
    rw [if_neg (by decide), get_d hl w c u p i (by omega)]
    rfl

theorem write_d (p1 : Bool) (p2 : Int) (i : Int) (data : Blk) : deal_Deal_Write_1 (((p1, p2), w, (c, u), xs, []), i, data) = some (((p1, p2), if thereS n i = true ∧ data.length ≤ 128 then mp w i (wholeS data) else w, (c, u), xs, []), if thereS n i = true ∧ data.length ≤ 128 then 0 else 1) := by
  unfold deal_Deal_Write_1
  dsimp only
  rw [there_d hl, Option.bind_some]
  cases h : thereS n i with
  | false =>
    rw [if_pos (by decide), if_neg (fun q => by cases q.1), if_neg (fun q => by cases q.1)]
  | true =>
    rw [if_neg (by decide)]
    by_cases hd : data.length ≤ 128
    · rw [pad_is _ hd, Option.bind_some]
      dsimp only
      rw [if_neg (by decide), if_pos ⟨rfl, hd⟩, if_pos ⟨rfl, hd⟩, wholeS_short _ hd]
      rfl
    · rw [if_neg (fun q => hd q.2), if_neg (fun q => hd q.2)]
      have hf : mould_fits (data, 128) = some 3 := by
        unfold mould_fits
        dsimp only
        rw [if_pos (by decide), Option.bind_some]
        dsimp only
        rw [if_neg (by decide), if_pos (by simp; omega)]
      unfold mould_Pad
      dsimp only
      rw [hf, Option.bind_some, if_pos (by decide), Option.bind_some]
      rfl

end

/-! ### Changes -/

theorem sorted_ext : ∀ (a b : List Int), a.Pairwise (· < ·) → b.Pairwise (· < ·) → (∀ x, x ∈ a ↔ x ∈ b) → a = b
  | [], [], _, _, _ => rfl
  | [], y :: b, _, _, h => absurd ((h y).2 List.mem_cons_self) (by simp)
  | x :: a, [], _, _, h => absurd ((h x).1 List.mem_cons_self) (by simp)
  | x :: a, y :: b, ha, hb, h => by
    obtain ⟨ha1, ha2⟩ := List.pairwise_cons.1 ha
    obtain ⟨hb1, hb2⟩ := List.pairwise_cons.1 hb
    have hxy : x = y := by
      rcases List.mem_cons.1 ((h x).1 List.mem_cons_self) with e | e
      · exact e
      · rcases List.mem_cons.1 ((h y).2 List.mem_cons_self) with e2 | e2
        · exact e2.symm
        · have h1 := hb1 x e
          have h2 := ha1 y e2
          omega
    subst hxy
    rw [sorted_ext a b ha2 hb2 fun z => ?_]
    constructor
    · intro hz
      rcases List.mem_cons.1 ((h z).1 (List.mem_cons_of_mem _ hz)) with e | e
      · have := ha1 z hz; omega
      · exact e
    · intro hz
      rcases List.mem_cons.1 ((h z).2 (List.mem_cons_of_mem _ hz)) with e | e
      · have := hb1 z hz; omega
      · exact e

theorem keys_sorted {l : List Int} (h : l.Nodup) : (isort l).Pairwise (· < ·) := by
  have h1 := isort_sorted l
  have h2 : (isort l).Nodup := (isort_perm l).nodup_iff.2 h
  exact (List.Pairwise.and h1 h2).imp fun ⟨a, b⟩ => by omega

theorem range_sorted (n : Nat) (q : Nat → Bool) : (((List.range n).filter q).map fun (i : Nat) => (i : Int)).Pairwise (· < ·) := by
  rw [List.pairwise_map]
  exact (List.Pairwise.filter _ List.pairwise_lt_range).imp fun h => by omega

/-- The sorted keys, as a part of the range of blocks. -/
theorem keys_range {n : Nat} {w : Loo} (hw : WfW n w) : isort (w.map (·.1)) = ((List.range n).filter fun (i : Nat) => (mg w (i : Int)).isSome).map fun (i : Nat) => (i : Int) := by
  refine sorted_ext _ _ (keys_sorted hw.nodup) (range_sorted n _) fun x => ?_
  rw [(isort_perm _).mem_iff, ← mg_some]
  constructor
  · intro h
    have hx : 0 ≤ x ∧ x < (n : Int) := by
      cases hm : mg w x with
      | none => rw [hm] at h; cases h
      | some b => have := there_i (hw.keys _ (mg_mem hm)).1; exact ⟨this.1, this.2.1⟩
    refine List.mem_map.2 ⟨x.toNat, List.mem_filter.2 ⟨List.mem_range.2 (by omega), ?_⟩, by omega⟩
    rw [show ((x.toNat : Nat) : Int) = x by omega]
    exact h
  · intro h
    obtain ⟨i, hi, rfl⟩ := List.mem_map.1 h
    exact (List.mem_filter.1 hi).2

theorem flat_filter {α β γ : Type} (p q : α → Bool) (g : α → β) (f : β → List γ) (h : α → γ) : ∀ l : List α, (∀ a ∈ l, p a = true → f (g a) = if q a = true then [h a] else []) → (∀ a ∈ l, p a = false → q a = false) →
    ((l.filter p).map g).flatMap f = (l.filter q).map h
  | [], _, _ => rfl
  | a :: l, h1, h2 => by
    have ih := flat_filter p q g f h l (fun b hb => h1 b (List.mem_cons_of_mem _ hb)) (fun b hb => h2 b (List.mem_cons_of_mem _ hb))
    cases hp : p a with
    | true =>
      rw [List.filter_cons_of_pos hp, List.map_cons, List.flatMap_cons, ih, h1 a List.mem_cons_self hp]
      cases hq : q a with
      | true => rw [List.filter_cons_of_pos hq, if_pos rfl]; rfl
      | false => rw [List.filter_cons_of_neg (by rw [hq]; decide), if_neg (by decide)]; rfl
    | false =>
      have hq := h2 a List.mem_cons_self hp
      rw [List.filter_cons_of_neg (by rw [hp]; decide), List.filter_cons_of_neg (by rw [hq]; decide), ih]

/-- Which blocks are other ones. -/
def isCh (xs : List Blk) (w : Loo) (i : Nat) : Bool := !(getW xs w (i : Int) == xs.getD i [])
def chW (n : Nat) (xs : List Blk) (w : Loo) : Loo := ((List.range n).filter (isCh xs w)).map fun (i : Nat) => ((i : Int), getW xs w (i : Int))

theorem chW_len (n : Nat) (xs : List Blk) (w : Loo) : (chW n xs w).length ≤ n := by
  unfold chW
  rw [List.length_map]
  have := List.length_filter_le (isCh xs w) (List.range n)
  rw [List.length_range] at this
  exact this

theorem changes_d {n : Nat} {xs : List Blk} (hl : xs.length = n) (hn : n ≤ 1000) {w : Loo} (hw : WfW n w) (c u : Int) (p1 : Bool) (p2 : Int) :
    deal_written_changes ((p1, p2), w, (c, u), xs, []) = some (((p1, p2), w, (c, u), xs, []), chW n xs w) := by
  have hks := keys_range hw
  have hkl : (isort (w.map (·.1))).length ≤ n := by
    rw [hks, List.length_map]
    have := List.length_filter_le (fun i : Nat => (mg w (i : Int)).isSome) (List.range n)
    rw [List.length_range] at this
    exact this
  have hwl : w.length ≤ n := by
    rw [(isort_perm _).length_eq, List.length_map] at hkl
    exact hkl
  have hsort : slices_Sorted w = some (w, isort (w.map (·.1))) := by
    unfold slices_Sorted
    rw [if_pos]
    refine ⟨by omega, List.all_eq_true.2 fun e he => ?_⟩
    have := there_i (hw.keys e he).1
    unfold keyWf
    simp only [Bool.and_eq_true, decide_eq_true_eq]
    omega
  have hmem : ∀ k ∈ isort (w.map (·.1)), 0 ≤ k ∧ k < (n : Int) ∧ (mg w k).isSome = true := fun k hk => by
    rw [hks] at hk
    obtain ⟨i, hi, rfl⟩ := List.mem_map.1 hk
    have := List.mem_range.1 (List.mem_filter.1 hi).1
    exact ⟨by omega, by omega, (List.mem_filter.1 hi).2⟩
  have hflat : (isort (w.map (·.1))).flatMap (fun k => if (!((mg w k).getD [] == xs.getD k.toNat [])) = true then [(k, (mg w k).getD [])] else []) = chW n xs w := by
    rw [hks]
    refine flat_filter _ _ _ _ _ _ (fun i _ hi => ?_) (fun i _ hi => ?_)
    · unfold isCh getW
      rw [Int.toNat_natCast]
      cases hm : mg w (i : Int) with
      | none => rw [hm] at hi; cases hi
      | some b => rfl
    · unfold isCh getW
      cases hm : mg w (i : Int) with
      | none => simp
      | some b => rw [hm] at hi; cases hi
  generalize isort (w.map (·.1)) = ks at hsort hmem hflat hkl
  have hfl : ∀ i, ((ks.take i).flatMap (fun k => if (!((mg w k).getD [] == xs.getD k.toNat [])) = true then [(k, (mg w k).getD [])] else [])).length ≤ n := fun i => by
    have : ∀ l : List Int, (l.flatMap (fun k => if (!((mg w k).getD [] == xs.getD k.toNat [])) = true then [(k, (mg w k).getD [])] else [])).length ≤ l.length := fun l => by
      induction l with
      | nil => simp
      | cons a l ih =>
        rw [List.flatMap_cons, List.length_append, List.length_cons]
        split
        · rw [List.length_cons, List.length_nil]; omega
        · rw [List.length_nil]; omega
    have h1 := this (ks.take i)
    rw [List.length_take] at h1
    omega
  have := loop_run (f := deal_written_changes.l1) (fun i => (((p1, p2), w, (c, u), xs, [], (ks.take i).flatMap (fun k => if (!((mg w k).getD [] == xs.getD k.toNat [])) = true then [(k, (mg w k).getD [])] else [])), ks, (ks.length : Int), (i : Int))) (n := ks.length)
    (r := ((p1, p2), w, (c, u), xs, [], chW n xs w)) (fun i hi => by
    have hk := hmem (ks.getD i 0) (by rw [getD_lt hi]; exact List.getElem_mem hi)
    have hfi := hfl i
    have hmg : mget (K := I) (V := .str) w (ks.getD i 0) = mg w (ks.getD i 0) := rfl
    unfold deal_written_changes.l1
    dsimp only
    rw [if_pos (by simpa using hi), if_pos (by omega), Int.toNat_natCast, lread_d hl c u (p1, p2) _ ⟨hk.1, hk.2.1⟩, Option.bind_some, hmg, wrap_succ (by omega), take_succ_getD hi 0, List.flatMap_append]
    by_cases h : (!((mg w (ks.getD i 0)).getD [] == xs.getD (ks.getD i 0).toNat [])) = true
    · rw [if_pos h, if_pos (room (by decide) (by simp only [List.length_cons, List.length_nil]; omega))]
      rw [List.flatMap_singleton, if_pos h]
    · rw [if_neg h, List.flatMap_singleton, if_neg h, List.append_nil]) (by
    unfold deal_written_changes.l1
    dsimp only
    rw [if_neg (by simp), List.take_length, hflat])
  have this : loopO deal_written_changes.l1 (((p1, p2), w, (c, u), xs, [], []), ks, (ks.length : Int), 0) = _ := this
  have hkeys : maps_Keys_map_int_string_int_string w = some w := rfl
  unfold deal_written_changes
  dsimp only
  rw [hkeys, Option.bind_some, hsort, Option.bind_some]
  dsimp only
  rw [this]
  rfl

theorem changed_d {n : Nat} {xs : List Blk} (hl : xs.length = n) (hn : n ≤ 1000) {w : Loo} (hw : WfW n w) (c u : Int) (p1 : Bool) (p2 : Int) :
    deal_Deal_Changed ((p1, p2), w, (c, u), xs, []) = some (((p1, p2), w, (c, u), xs, []), (chW n xs w).map (·.1)) := by
  have hlen := chW_len n xs w
  unfold deal_Deal_Changed
  dsimp only
  rw [changes_d hl hn hw, Option.bind_some]
  dsimp only
  generalize chW n xs w = ch at hlen
  have := loop_run (f := deal_Deal_Changed.l1) (fun i => (((p1, p2), w, (c, u), xs, [], (ch.take i).map (·.1)), ch, (ch.length : Int), (i : Int))) (n := ch.length)
    (r := ((p1, p2), w, (c, u), xs, [], ch.map (·.1))) (fun i hi => by
    unfold deal_Deal_Changed.l1
    dsimp only
    rw [if_pos (by simpa using hi), if_pos (by omega), Int.toNat_natCast, if_pos (room (by decide) (by simp; omega)), wrap_succ (by omega), take_succ_getD hi (0, []), List.map_append]
    rfl) (by
    unfold deal_Deal_Changed.l1
    dsimp only
    rw [if_neg (by simp), List.take_length])
  have this : loopO deal_Deal_Changed.l1 (((p1, p2), w, (c, u), xs, [], []), ch, (ch.length : Int), 0) = _ := this
  rw [this]
  rfl

/-! ### A commit -/

abbrev Cr := Int × Int × Int
def magic : Blk := [119, 97, 105, 110, 119, 114, 105, 103, 104, 116]
def wsK : List Int := [1, 2, 1]
def rightK (c : Cr) : Bool := decide (64 ≤ c.2.1 ∧ c.2.1 ≤ 400) && ((decide (c.1 = 1 ∨ c.1 = 2) && decide (c.2.2 = 0)) || (decide (c.1 = 3 ∨ c.1 = 4) && decide (0 ≤ c.2.2 ∧ c.2.2 ≤ 32)))

theorem crownRight_is (c : Cr) : crown_Right c = some (rightK c) := by
  obtain ⟨f, b, a⟩ := c
  have e0 : (a == 0) = decide (a = 0) := by rw [Bool.eq_iff_iff]; simp
  unfold crown_Right rightK
  dsimp only
  by_cases h1 : b < 64
  · rw [if_neg (by simp; omega), decide_eq_false (p := 64 ≤ b ∧ b ≤ 400) (by omega)]; rfl
  · rw [if_pos (by simp; omega)]
    by_cases h2 : b > 400
    · rw [if_pos (by simp; omega), decide_eq_false (p := 64 ≤ b ∧ b ≤ 400) (by omega)]; rfl
    · rw [if_neg (by simp; omega), decide_eq_true (p := 64 ≤ b ∧ b ≤ 400) (by omega), Bool.true_and]
      by_cases f1 : f = 1
      · subst f1; simp [e0]
      · by_cases f2 : f = 2
        · subst f2; simp [e0]
        · by_cases f3 : f = 3
          · subst f3; by_cases h3 : 0 ≤ a <;> simp [h3]
          · by_cases f4 : f = 4
            · subst f4; by_cases h3 : 0 ≤ a <;> simp [h3]
            · simp [f1, f2, f3, f4]

def vsK (c : Cr) : List Int := [c.1, c.2.1, c.2.2]
def crownBy (c : Cr) : Blk := magic ++ encT wsK (vsK c)
def wrK (c : Cr) : Blk × Int := if rightK c = true then (wholeS (crownBy c), 0) else ([], 1)

theorem rightK_fit {c : Cr} (h : rightK c = true) : fitW wsK (vsK c) = true := by
  obtain ⟨f, b, a⟩ := c
  unfold rightK at h
  simp only [Bool.and_eq_true, Bool.or_eq_true, decide_eq_true_eq] at h
  simp only [wsK, vsK, fitW, lim, Bool.and_eq_true, decide_eq_true_eq]
  refine ⟨?_, ?_, ?_, trivial⟩ <;> simp <;> omega

theorem crownBy_len {c : Cr} (h : rightK c = true) : (crownBy c).length = 14 := by
  unfold crownBy
  rw [List.length_append, encT_len _ _ (rightK_fit h)]
  rfl

theorem crownWrite_is (c : Cr) : crown_Write c = some (wrK c) := by
  have hr := crownRight_is c
  unfold crown_Write wrK
  dsimp only
  rw [hr, Option.bind_some]
  cases hrc : rightK c with
  | false => rw [if_pos (by decide), if_neg (by decide)]
  | true =>
    have hl := crownBy_len hrc
    have hw : crown_widths () = some wsK := rfl
    rw [if_neg (by decide), if_pos rfl, hw, Option.bind_some]
    have hv : [c.1, c.2.1, c.2.2] = vsK c := rfl
    rw [hv, mould_Write_is _ _ (by decide) (by simp [vsK]), wr_fit _ _ rfl (rightK_fit hrc), Option.bind_some]
    dsimp only
    have hm : ([119, 97, 105, 110, 119, 114, 105, 103, 104, 116] : List UInt8) ++ encT wsK (vsK c) = crownBy c := rfl
    have hm2 : ([119, 97, 105, 110, 119, 114, 105, 103, 104, 116] : List UInt8).length + (encT wsK (vsK c)).length ≤ 9223372036854775807 := by
      rw [← List.length_append, hm, hl]; decide
    rw [if_neg (by decide), if_pos hm2, hm, pad_is _ (by omega), Option.bind_some, wholeS_short _ (by omega)]

def crownOf (s : Blk) : Cr := let l := rdS wsK (s.drop 10); (l.getD 0 0, l.getD 1 0, l.getD 2 0)
def rdK (s : Blk) : Cr × Int := if s.length = 128 ∧ rightK (crownOf s) = true ∧ (wrK (crownOf s)).1 = s then (crownOf s, 0) else ((0, 0, 0), 15)

theorem rdS3 (t : Blk) : ∃ a b c, rdS wsK t = [a, b, c] := ⟨_, _, _, rfl⟩

theorem zeros_rep : ∀ (t : Blk), zeros t = decide (t = List.replicate t.length 0)
  | [] => rfl
  | b :: t => by
    have ih := zeros_rep t
    unfold zeros at ih ⊢
    rw [List.all_cons, ih, List.length_cons, List.replicate_succ, Bool.eq_iff_iff]
    simp

theorem crown_same (s : Blk) (hs : s.length = 128) (hr : rightK (crownOf s) = true) : (wrK (crownOf s)).1 = s ↔ s.take 10 = magic ∧ zeros (s.drop 14) = true := by
  have hl := crownBy_len hr
  unfold wrK
  rw [if_pos hr]
  dsimp only
  rw [wholeS_short _ (by omega), hl]
  have he : encT wsK (vsK (crownOf s)) = (s.drop 10).take 4 := by
    obtain ⟨e, h1, h2⟩ := enc_rdS wsK (s.drop 10) rfl (by simp [hs]; decide)
    have hv : vsK (crownOf s) = rdS wsK (s.drop 10) := by
      obtain ⟨a, b, c, h⟩ := rdS3 (s.drop 10)
      unfold vsK crownOf
      rw [h]
      rfl
    have hf := rightK_fit hr
    rw [hv] at hf ⊢
    obtain ⟨e', h3, h4⟩ := enc_fit _ _ hf
    rw [h1] at h3
    rw [← h4, ← Option.some.inj h3, h2]
    rfl
  unfold crownBy
  rw [he]
  have hsp : s = s.take 10 ++ (s.drop 10).take 4 ++ s.drop 14 := by
    rw [List.append_assoc, show s.drop 14 = (s.drop 10).drop 4 by rw [List.drop_drop], List.take_append_drop, List.take_append_drop]
  have hz : zeros (s.drop 14) = decide (s.drop 14 = List.replicate 114 0) := by
    rw [zeros_rep, List.length_drop, hs]
  rw [hz, decide_eq_true_eq]
  constructor
  · intro h
    have h1 : s.take 10 = magic := by
      have := congrArg (List.take 10) h
      rw [List.append_assoc, List.take_append_of_le_length (by decide)] at this
      exact this.symm
    have h2 : s.drop 14 = List.replicate 114 0 := by
      have := congrArg (List.drop 14) h
      rw [List.drop_append_of_le_length (by simp [magic, hs]), List.drop_of_length_le (by simp [magic, hs])] at this
      exact this.symm
    exact ⟨h1, h2⟩
  · rintro ⟨h1, h2⟩
    rw [← h1, ← h2]
    exact hsp.symm

theorem crownRead_is (s : Blk) (hs : s.length = 128) : crown_Read s = some (rdK s) := by
  have hcut : strings_CutPrefix (s, magic) = some (if s.take 10 = magic then (s.drop 10, true) else (s, false)) := by
    unfold strings_CutPrefix stringslite_CutPrefix stringslite_HasPrefix
    dsimp only
    have hml : (magic.length : Int) = 10 := rfl
    rw [hml, if_pos (by simp [hs]), if_pos (by omega), Option.bind_some]
    by_cases h : s.take 10 = magic
    · rw [if_pos h, show ((10 : Int)).toNat = 10 from rfl, h, if_neg (by decide), if_pos (by omega)]; rfl
    · rw [if_neg h, show ((10 : Int)).toNat = 10 from rfl, if_pos (by simp [h])]; rfl
  unfold crown_Read
  have hmg : ([119, 97, 105, 110, 119, 114, 105, 103, 104, 116] : List UInt8) = magic := rfl
  have hw : crown_widths () = some wsK := rfl
  rw [hmg, hcut, Option.bind_some]
  by_cases h : s.take 10 = magic
  · rw [if_pos h]
    dsimp only
    have hrd : rd wsK (s.drop 10) = (rdS wsK (s.drop 10), 0) := rd_ok _ _ rfl (by simp [hs]; decide)
    rw [hw, Option.bind_some, mould_Read_is _ _ (by decide), hrd, Option.bind_some]
    dsimp only
    have hlen : (rdS wsK (s.drop 10)).length = 3 := rdS_len _ _
    obtain ⟨r, hr1, hr2⟩ := trim_is ((s.drop 10).drop 4) (by simp; omega)
    have hsz : mould_Size wsK = some 4 := by rw [mould_Size_is _ (by decide)]; rfl
    rw [if_pos (by decide), if_pos (by decide), if_pos (by simp [hs]), Option.bind_some, hsz, Option.bind_some, if_pos (by simp [hs]), show ((4 : Int)).toNat = 4 from rfl, hr1, Option.bind_some, hr2]
    rw [List.drop_drop]
    have hc : ((rdS wsK (s.drop 10)).getD 0 0, (rdS wsK (s.drop 10)).getD 1 0, (rdS wsK (s.drop 10)).getD 2 0) = crownOf s := rfl
    unfold rdK
    cases hz : zeros (s.drop (10 + 4)) with
    | false =>
      rw [if_pos (by decide), if_neg]
      rintro ⟨_, q1, q2⟩
      have := ((crown_same s hs q1).1 q2).2
      rw [hz] at this
      cases this
    | true =>
      rw [if_neg (by decide), if_pos (by omega), if_pos (by omega), if_pos (by omega), hc, crownRight_is, Option.bind_some]
      cases hrc : rightK (crownOf s) with
      | false => rw [if_pos (by decide), if_neg (by simp)]
      | true => rw [if_neg (by decide), if_pos ⟨hs, rfl, (crown_same s hs hrc).2 ⟨h, hz⟩⟩]
  · rw [if_neg h]
    dsimp only
    rw [hw, Option.bind_some, mould_Read_is _ _ (by decide)]
    have hrd : rd wsK s = (rdS wsK s, 0) := rd_ok _ _ rfl (by simp [hs]; decide)
    rw [hrd, Option.bind_some]
    dsimp only
    rw [if_neg (by decide)]
    unfold rdK
    rw [if_neg]
    rintro ⟨_, q1, q2⟩
    exact h ((crown_same s hs q1).1 q2).1

theorem rdK_len (s : Blk) : (rdK s).2 = 0 ∨ rdK s = ((0, 0, 0), 15) := by
  unfold rdK
  split
  · exact .inl rfl
  · exact .inr rfl

def rdK2 (n : Nat) (s : Blk) : Cr × Int := if (rdK s).2 = 0 ∧ (rdK s).1.2.1 ≤ (n : Int) then ((rdK s).1, 0) else ((0, 0, 0), 15)

theorem wrK_len {c : Cr} (h : rightK c = true) : (wrK c).1.length = 128 := by
  unfold wrK
  rw [if_pos h]
  exact wholeS_len _

def okK (n : Nat) (c : Cr) : Prop := rightK c = true ∧ c.2.1 ≤ (n : Int)
instance (n : Nat) (c : Cr) : Decidable (okK n c) := by unfold okK; exact inferInstance

/-! ### The deal's -/

section
variable {n : Nat} {xs : List Blk} (hf : Full n xs) (hn : 64 ≤ n) {w : Loo} (hw : WfW n w) (c u : Int) (p1 : Bool) (p2 : Int)
include hf hn hw

theorem crown_d : deal_Deal_Crown (((xs, [], c, u), p1, p2), w) = some (rdK2 n (getW xs w 0)) := by
  unfold deal_Deal_Crown rdK2
  rw [get_d hf.len w c u (p1, p2) 0 (by omega), Option.bind_some, crownRead_is _ (hf.get hw (by omega)), Option.bind_some]
  dsimp only
  rcases rdK_len (getW xs w 0) with h | h
  · rw [h, if_pos (by decide), size_d hf.len, Option.bind_some]
    by_cases hb : (rdK (getW xs w 0)).1.2.1 ≤ (n : Int)
    · rw [if_neg (by simpa using hb), if_pos ⟨rfl, hb⟩]
    · rw [if_pos (by simp; omega), if_neg (fun q => hb q.2)]
  · rw [h]
    rw [if_neg (by decide), if_neg (fun q => absurd q.1 (by decide))]

omit hf hn hw in
theorem crown0 (h : 64 ≤ n) : thereS n 0 = true := by
  unfold thereS
  rw [decide_eq_true_eq]
  omega

omit hw in
theorem setCrown_d (k : Cr) : deal_Deal_SetCrown_1 (((p1, p2), w, (c, u), xs, []), k) = some (((p1, p2), if okK n k then mp w 0 (wrK k).1 else w, (c, u), xs, []), if okK n k then 0 else 1) := by
  unfold deal_Deal_SetCrown_1
  dsimp only
  rw [size_d hf.len, Option.bind_some]
  by_cases hb : k.2.1 ≤ (n : Int)
  · rw [if_neg (by simpa using hb), crownWrite_is, Option.bind_some]
    cases hr : rightK k with
    | false =>
      have h2 : wrK k = ([], 1) := by unfold wrK; rw [hr]; rfl
      rw [h2]
      dsimp only
      rw [if_pos (by decide), if_neg (fun q : okK n k => by have := q.1; rw [hr] at this; cases this), if_neg (fun q : okK n k => by have := q.1; rw [hr] at this; cases this)]
    | true =>
      have h2 : (wrK k).2 = 0 := by unfold wrK; rw [hr]; rfl
      have hl := wrK_len hr
      rw [h2, if_neg (by decide), write_d hf.len, Option.bind_some, if_pos ⟨crown0 hn, by omega⟩, if_pos ⟨crown0 hn, by omega⟩, if_pos (show okK n k from ⟨hr, hb⟩), if_pos (show okK n k from ⟨hr, hb⟩), wholeS_id _ hl]
  · rw [if_pos (by simp; omega), if_neg (fun q : okK n k => hb q.2), if_neg (fun q : okK n k => hb q.2)]

end

theorem sread (xs : List Blk) (c u i : Int) (h : 0 ≤ i ∧ i < (xs.length : Int)) : slab_Slab_Read ((xs, [], c, u), i) = some (xs.getD i.toNat []) := by
  unfold slab_Slab_Read slab_Slab_there
  dsimp only
  rw [if_pos (show decide (i ≥ 0) = true by rw [decide_eq_true_eq]; exact h.1), Option.bind_some, if_neg (by simp; omega), if_neg (by rw [show mget (K := I) (V := .str) ([] : Loo) i = none from rfl]; decide), if_pos h]

/-- The blocks of a new disk. -/
def newX (n : Nat) : List Blk := List.replicate n zeroS
theorem newX_full (n : Nat) : Full n (newX n) := ⟨by simp [newX], fun i hi => by
  unfold newX
  rw [getD_lt (by simpa using hi), List.getElem_replicate]
  exact zero_len⟩

set_option maxRecDepth 10000 in
theorem log_open0 {n : Nat} (hr : 64 ≤ n ∧ n ≤ 400) : log_Open ((0, -1), newX n, []) = some (.inr (((0, -1), newX n, [], false, 0), 0)) := by
  have hl := (newX_full n).len
  have hz : (newX n).getD 1 [] = zeroS := by
    unfold newX
    rw [getD_lt (by simp; omega), List.getElem_replicate]
  have hread : log_Log_read_2 ((false, 0), (0, -1), newX n, []) = some (((false, 0), (0, -1), newX n, []), [], true) := by
    obtain ⟨r, hr1, hr2⟩ := trim_is (zeroS.drop 1) (by simp [zero_len])
    have hr3 : r = [] := by
      rw [show zeros (zeroS.drop 1) = true by kernel_rfl] at hr2
      simpa using hr2
    subst hr3
    unfold log_Log_read_2
    dsimp only
    rw [sread (newX n) 0 (-1) 1 (by omega), Option.bind_some, show (1 : Int).toNat = 1 from rfl, hz]
    rw [if_pos (by decide), show IntKind.i64.wrap (((zeroS.getD 0 0).toNat : Int)) = 0 from rfl, if_neg (by decide), slices_Repeat_int_int.le ([2], 0) [] (by kernel_rfl), Option.bind_some, if_pos (by decide), mould_Read_is _ _ (by decide), show rd [] (zeroS.drop 1) = ([], 0) by kernel_rfl, Option.bind_some]
    dsimp only
    rw [if_pos (by rfl), mould_Size_is _ (by decide), show szI [] = 0 from rfl, Option.bind_some, show IntKind.i64.wrap (1 + 0) = 1 from rfl, if_pos (by decide), show (1 : Int).toNat = 1 from rfl, hr1, Option.bind_some, if_neg (by decide)]
    rw [loopO_inr (r := ((false, 0), (0, -1), newX n, [], [])) (by
      unfold log_Log_read_2.l1
      dsimp only
      rw [if_neg (by decide)]), Option.bind_some]
    dsimp only
    unfold log_Log_right
    dsimp only
    rw [loopO_inr (r := .inl ()) (by
      unfold log_Log_right.l1
      dsimp only
      rw [if_neg (by decide)]), Option.bind_some]
    rfl
  unfold log_Open slab_Slab_Size
  dsimp only
  rw [Option.bind_some, if_neg (by rw [decide_eq_true_eq]; omega), hread, Option.bind_some]
  dsimp only
  rw [if_neg (by decide), if_neg (by simp)]

theorem new0 (n : Nat) (h : n ≤ 400) : slab_New (n : Int) = some ((0, -1), newX n, []) := by
  rw [new_is, Int.toNat_natCast, show min 1000 n = n by omega]
  rfl

theorem tmod_nat (x : Int) (k : Nat) (h0 : 0 < k) (h1 : k ≤ 1000) : ∃ M : Nat, M < k ∧ IntKind.i64.wrap (Int.tmod (IntKind.u64.wrap x) (k : Int)) = (M : Int) := by
  have hu : 0 ≤ IntKind.u64.wrap x := by
    simp only [IntKind.wrap, IntKind.signed, IntKind.bits]
    simp
    omega
  have a := Int.tmod_nonneg (k : Int) hu
  have b := Int.tmod_lt_of_pos (IntKind.u64.wrap x) (show (0 : Int) < (k : Int) by omega)
  exact ⟨(Int.tmod (IntKind.u64.wrap x) (k : Int)).toNat, by omega, by rw [wrap64 (by omega) (by omega)]; omega⟩

end Go.Proofs.YtlbammfnkphajaaGreatDoor.Abs
