/- Spans in their order: what Right says, what Cut cuts, and that spans are those of their map. -/
import Derived.Test.YtnbhmifidhoblaaLawB
namespace Go.Proofs.Ytnbhmifidhoblaa.Abs
open Go
set_option linter.unusedVariables false
attribute [-simp] List.getD_eq_getElem?_getD

def okS (s : Sp) : Prop := 0 ≤ s.1 ∧ 1 ≤ s.2.1 ∧ 1 ≤ s.2.2 ∧ s.2.2 < 65536 ∧ s.1 ≤ 65536 - s.2.2 ∧ s.2.1 ≤ 65536 - s.2.2
def nextOk (a b : Sp) : Prop := a.1 + a.2.2 ≤ b.1 ∧ ¬ (a.1 + a.2.2 = b.1 ∧ a.2.1 + a.2.2 = b.2.1)
instance (s : Sp) : Decidable (okS s) := by unfold okS; infer_instance
instance (a b : Sp) : Decidable (nextOk a b) := by unfold nextOk; infer_instance

def Good : List Sp → Prop
  | [] => True
  | [s] => okS s
  | a :: b :: r => okS a ∧ nextOk a b ∧ Good (b :: r)

theorem Good.head {s : Sp} {r : List Sp} (h : Good (s :: r)) : okS s := by
  cases r with
  | nil => exact h
  | cons b r => exact h.1
theorem Good.tail {s : Sp} {r : List Sp} (h : Good (s :: r)) : Good r := by
  cases r with
  | nil => trivial
  | cons b r => exact h.2.2
theorem good_index : ∀ (l : List Sp), Good l ↔ ∀ k, k < l.length → okS (l.getD k sp0) ∧ (0 < k → nextOk (l.getD (k - 1) sp0) (l.getD k sp0))
  | [] => by simp [Good]
  | [s] => by
    constructor
    · intro h k hk
      have : k = 0 := by simpa using hk
      subst this
      exact ⟨h, fun h => by omega⟩
    · intro h; exact (h 0 (by simp)).1
  | a :: b :: r => by
    have ih := good_index (b :: r)
    constructor
    · rintro ⟨h1, h2, h3⟩ k hk
      cases k with
      | zero => exact ⟨h1, fun h => by omega⟩
      | succ k =>
        obtain ⟨q1, q2⟩ := ih.1 h3 k (by simpa using hk)
        refine ⟨by simpa [List.getD] using q1, fun _ => ?_⟩
        cases k with
        | zero => simpa [List.getD] using h2
        | succ k => simpa [List.getD] using q2 (by omega)
    · intro h
      refine ⟨(h 0 (by simp)).1, by simpa [List.getD] using (h 1 (by simp)).2 (by omega), ih.2 fun k hk => ?_⟩
      obtain ⟨q1, q2⟩ := h (k + 1) (by simpa using hk)
      refine ⟨by simpa [List.getD] using q1, fun h0 => ?_⟩
      have := q2 (by omega)
      cases k with
      | zero => omega
      | succ k => simpa [List.getD] using this

/-- No number is far out. -/
def near0 (s : Sp) : Prop := -1000000 ≤ s.1 ∧ s.1 ≤ 1000000 ∧ -1000000 ≤ s.2.1 ∧ s.2.1 ≤ 1000000 ∧ s.2.2 ≤ 1000000 ∧ -9223372036854775808 ≤ s.2.2

theorem odd_is (s : Sp) (h : near0 s) : spans_odd s = some (!decide (okS s)) := by
  obtain ⟨h1, h2, h3, h4, h5, h6⟩ := h
  unfold spans_odd
  have key : ∀ {b : Bool}, (b = true ↔ ¬ okS s) → some b = some (!decide (okS s)) := by
    intro b hb
    congr 1
    by_cases h : okS s
    · cases b
      · simp [h]
      · exact absurd h (hb.1 rfl)
    · rw [hb.2 h]; simp [h]
  by_cases q1 : s.1 < 0
  · rw [if_neg (by simpa using q1)]
    exact key ⟨fun _ h => by have := h.1; omega, fun _ => rfl⟩
  rw [if_pos (by simpa using q1)]
  by_cases q2 : s.2.1 < 1
  · rw [if_neg (by simp; omega)]
    exact key ⟨fun _ h => by have := h.2.1; omega, fun _ => rfl⟩
  rw [if_pos (by simp; omega)]
  by_cases q3 : s.2.2 < 1
  · rw [if_neg (by simp; omega)]
    exact key ⟨fun _ h => by have := h.2.2.1; omega, fun _ => rfl⟩
  rw [if_pos (by simp; omega)]
  by_cases q4 : s.2.2 ≥ 65536
  · rw [if_neg (by simp; omega)]
    exact key ⟨fun _ h => by have := h.2.2.2.1; omega, fun _ => rfl⟩
  rw [if_pos (by simp; omega), wrap64 (n := 65536 - s.2.2) (by omega) (by omega)]
  by_cases q5 : s.1 > 65536 - s.2.2
  · rw [if_neg (by simp; omega)]
    exact key ⟨fun _ h => by have := h.2.2.2.2.1; omega, fun _ => rfl⟩
  rw [if_pos (by simp; omega)]
  refine key ⟨fun hb h => ?_, fun h => ?_⟩
  · have h9 := h.2.2.2.2.2
    simp at hb; omega
  · simp only [decide_eq_true_eq]
    refine Classical.byContradiction fun hn => h ⟨?_, ?_, ?_, ?_, ?_, ?_⟩ <;> omega

theorem joins_eq (a b : Sp) (h1 : -1000000 ≤ a.1 ∧ a.1 ≤ 1000000) (h2 : -1000000 ≤ a.2.1 ∧ a.2.1 ≤ 1000000) (h3 : -1000000 ≤ a.2.2 ∧ a.2.2 ≤ 1000000) :
    joinsS a b = decide (a.1 + a.2.2 = b.1 ∧ a.2.1 + a.2.2 = b.2.1) := by
  unfold joinsS
  rw [wrap64 (n := a.1 + a.2.2) (by omega) (by omega), wrap64 (n := a.2.1 + a.2.2) (by omega) (by omega), Bool.decide_and]
  rfl

def badAt (l : List Sp) (k : Nat) : Bool := !(decide (okS (l.getD k sp0)) && (decide (k = 0) || decide (nextOk (l.getD (k - 1) sp0) (l.getD k sp0))))

theorem Right_is (l : List Sp) (hl : l.length ≤ 1048576) (hn : ∀ k, k < l.length → near0 (l.getD k sp0)) : ∃ b, spans_Right l = some b ∧ (b = true ↔ Good l) := by
  obtain ⟨j, _, hj, hbefore, hstop, hrun⟩ := loop_first' (f := spans_Right.l1) (fun k => (l, l, (l.length : Int), (k : Int))) (badAt l) (n := l.length)
    (r := fun k => if k < l.length then .inr false else .inl ()) l.length 0 (by omega) (fun k _ hk hpre => by
      unfold spans_Right.l1
      dsimp only
      rw [if_pos (by simp; omega), if_pos (by omega), Int.toNat_natCast]
      have h0 := hn k hk
      rw [show ((l.getD k (0, 0, 0)).1, (l.getD k (0, 0, 0)).2.1, (l.getD k (0, 0, 0)).2.2) = l.getD k sp0 from rfl, odd_is _ h0]
      simp only [Option.bind_some, hk, if_true]
      by_cases q1 : okS (l.getD k sp0)
      · rw [if_pos (by simpa using q1)]
        by_cases q2 : k = 0
        · subst q2
          rw [if_neg (by simp), if_neg (by simp [badAt, q1])]
          rfl
        · have hp := hn (k - 1) (by omega)
          have hpk : okS (l.getD (k - 1) sp0) := by
            have := hpre (k - 1) (by omega) (by omega)
            unfold badAt at this
            simp only [Bool.not_eq_false', Bool.and_eq_true, decide_eq_true_eq] at this
            exact this.1
          have e1 : IntKind.i64.wrap ((k : Int) - 1) = ((k - 1 : Nat) : Int) := by rw [wrap64 (by omega) (by omega)]; omega
          rw [if_pos (by simp; omega), e1, if_pos (by omega), if_pos (by omega), Int.toNat_natCast]
          obtain ⟨g1, g2, g3, g4, g5, g6⟩ := hp
          obtain ⟨o1, o2, o3, o4, o5, o6⟩ := hpk
          rw [show ((l.getD (k - 1) (0, 0, 0)).1, (l.getD (k - 1) (0, 0, 0)).2.1, (l.getD (k - 1) (0, 0, 0)).2.2) = l.getD (k - 1) sp0 from rfl, joins_is, joins_eq _ _ ⟨g1, g2⟩ ⟨g3, g4⟩ ⟨by omega, g5⟩]
          simp only [Option.bind_some]
          have hbad : badAt l k = !decide (nextOk (l.getD (k - 1) sp0) (l.getD k sp0)) := by simp [badAt, q1, q2]
          rw [hbad]
          simp only [sp0] at *
          generalize l.getD (k - 1) (0, 0, 0) = a at *
          generalize l.getD k (0, 0, 0) = b at *
          rw [wrap64 (n := a.1 + a.2.2) (by omega) (by omega)]
          by_cases q3 : b.1 < a.1 + a.2.2
          · rw [if_neg (by simpa using q3), if_pos]
            simp only [Bool.not_eq_true', decide_eq_false_iff_not]
            intro h; have := h.1; omega
          · rw [if_pos (by simpa using q3), if_pos (by omega)]
            by_cases q4 : a.1 + a.2.2 = b.1 ∧ a.2.1 + a.2.2 = b.2.1
            · rw [if_pos (by simpa using q4), if_pos]
              simp only [Bool.not_eq_true', decide_eq_false_iff_not]
              intro h; exact h.2 q4
            · rw [if_neg (by simpa using q4), if_neg, wrap_succ (by omega)]
              simp only [Bool.not_eq_true', decide_eq_false_iff_not, Classical.not_not]
              exact ⟨by omega, q4⟩
      · rw [if_neg (by simpa using q1), if_pos (by simp [badAt, q1])]) (by
      unfold spans_Right.l1
      dsimp only
      rw [if_neg (by simp)]
      simp)
  unfold spans_Right
  rw [show (0 : Int) = ((0 : Nat) : Int) from rfl, hrun]
  have hgood : (∀ k, k < l.length → badAt l k = false) ↔ Good l := by
    rw [good_index]
    refine forall_congr' fun k => forall_congr' fun hk => ?_
    unfold badAt
    simp only [Bool.not_eq_false', Bool.and_eq_true, decide_eq_true_eq, Bool.or_eq_true]
    refine and_congr Iff.rfl ⟨fun h h0 => ?_, fun h => ?_⟩
    · exact h.resolve_left (by omega)
    · by_cases h0 : k = 0
      · exact .inl h0
      · exact .inr (h (by omega))
  rcases Nat.lt_or_ge j l.length with hlt | hge
  · refine ⟨false, by simp [hlt], fun h => (nomatch h), fun h => ?_⟩
    have h1 := hgood.2 h j hlt
    rw [hstop hlt] at h1; cases h1
  · have : j = l.length := by omega
    subst this
    exact ⟨true, by simp, fun _ => hgood.1 fun k hk => hbefore k (by omega) hk, fun _ => rfl⟩

/-! ### What is cut -/

def cutS : List Sp → Int → List Sp
  | [], _ => []
  | s :: r, n => if s.1 < n then (s.1, s.2.1, (if n - s.1 < s.2.2 then n - s.1 else s.2.2)) :: cutS r n else []

theorem cutS_len : ∀ (l : List Sp) (n : Int), (cutS l n).length ≤ l.length
  | [], _ => by simp [cutS]
  | s :: r, n => by
    have := cutS_len r n
    simp only [cutS]
    split <;> simp <;> omega

theorem cut_loop (n : Int) : ∀ (r p out : List Sp), (p ++ r).length ≤ 1048576 → out.length ≤ p.length → (∀ s ∈ r, okS s) → -9223372036854775808 ≤ n → n < 9223372036854775808 →
    loopO spans_Cut.l1 (out, n, p ++ r, ((p ++ r).length : Int), (p.length : Int)) = some (out ++ cutS r n)
  | [], p, out, _, _, _, _, _ => by
    refine loopO_inr ?_
    unfold spans_Cut.l1
    dsimp only
    rw [if_neg (by simp)]
    simp [cutS]
  | s :: r, p, out, hl, ho, hok, n1, n2 => by
    have hlen : (p ++ s :: r).length = p.length + r.length + 1 := by simp; omega
    have hg : (p ++ s :: r).getD p.length (0, 0, 0) = s := by simp [List.getD]
    obtain ⟨o1, o2, o3, o4, o5, o6⟩ := hok s List.mem_cons_self
    by_cases hc : s.1 < n
    · have hstep : spans_Cut.l1 (out, n, p ++ s :: r, ((p ++ s :: r).length : Int), (p.length : Int)) = some (.inl (out ++ [(s.1, s.2.1, (if n - s.1 < s.2.2 then n - s.1 else s.2.2))], n, p ++ s :: r, ((p ++ s :: r).length : Int), ((p.length + 1 : Nat) : Int))) := by
        unfold spans_Cut.l1
        dsimp only
        rw [if_pos (by rw [hlen]; simp; omega), if_pos (by rw [hlen]; omega), Int.toNat_natCast, hg, if_neg (by simp; omega), wrap64 (n := n - s.1) (by omega) (by omega), if_pos (room (by omega) (by simp; omega)), wrap_succ (by omega)]
      rw [loopO_inl hstep]
      have ih := cut_loop n r (p ++ [s]) (out ++ [(s.1, s.2.1, (if n - s.1 < s.2.2 then n - s.1 else s.2.2))]) (by simpa using hl) (by simp; omega) (fun q hq => hok q (List.mem_cons_of_mem _ hq)) n1 n2
      simp only [List.append_assoc, List.singleton_append, List.length_append, List.length_cons, List.length_nil] at ih ⊢
      rw [ih]
      simp [cutS, hc]
    · refine loopO_inr ?_
      unfold spans_Cut.l1
      dsimp only
      rw [if_pos (by rw [hlen]; simp; omega), if_pos (by rw [hlen]; omega), Int.toNat_natCast, hg, if_pos (by simp; omega)]
      simp [cutS, hc]

theorem good_mem : ∀ {l : List Sp}, Good l → ∀ s ∈ l, okS s
  | [], _, s, hs => by cases hs
  | a :: r, h, s, hs => by
    rcases List.mem_cons.1 hs with rfl | hs
    · exact h.head
    · exact good_mem h.tail s hs
theorem okS_near {s : Sp} (h : okS s) : near0 s := by
  obtain ⟨o1, o2, o3, o4, o5, o6⟩ := h
  refine ⟨?_, ?_, ?_, ?_, ?_, ?_⟩ <;> omega
theorem good_near {l : List Sp} (h : Good l) : ∀ k, k < l.length → near0 (l.getD k sp0) := fun k hk => okS_near ((good_index l).1 h k hk).1

theorem Right_good {l : List Sp} (hl : l.length ≤ 1048576) (h : Good l) : spans_Right l = some true := by
  obtain ⟨b, h1, h2⟩ := Right_is l hl (good_near h)
  rw [h1, h2.2 h]

theorem Cut_good {l : List Sp} (hl : l.length ≤ 1048576) (h : Good l) (n : Int) (n1 : -9223372036854775808 ≤ n) (n2 : n < 9223372036854775808) : spans_Cut (l, n) = some (cutS l n) := by
  unfold spans_Cut
  dsimp only
  rw [Right_good hl h]
  simp only [Option.bind_some, Bool.not_true, Bool.false_eq_true, if_false]
  have := cut_loop n l [] [] (by simpa using hl) (by simp) (good_mem h) n1 n2
  simp only [List.nil_append, List.length_nil] at this
  rw [show (0 : Int) = ((0 : Nat) : Int) from rfl, this]; rfl

/-! ### The blocks that spans say -/

def val : List Sp → Int → Int
  | [], _ => 0
  | s :: r, q => if s.1 ≤ q ∧ q - s.1 < s.2.2 then s.2.1 + (q - s.1) else val r q

theorem good_starts : ∀ {s : Sp} {r : List Sp}, Good (s :: r) → ∀ t ∈ r, s.1 + s.2.2 ≤ t.1
  | s, [], _, t, ht => by cases ht
  | s, b :: r, h, t, ht => by
    have h2 := h.2.1.1
    rcases List.mem_cons.1 ht with rfl | ht
    · exact h2
    · have := good_starts h.2.2 t ht
      have hb := h.2.2.head.2.2.1
      omega

theorem val_before : ∀ {l : List Sp} {q : Int}, (∀ t ∈ l, q < t.1) → val l q = 0
  | [], _, _ => rfl
  | s :: r, q, h => by
    have h1 := h s List.mem_cons_self
    simp only [val]
    rw [if_neg (by omega)]
    exact val_before fun t ht => h t (List.mem_cons_of_mem _ ht)

theorem cut_before : ∀ {l : List Sp} {n : Int}, (∀ t ∈ l, n ≤ t.1) → cutS l n = []
  | [], _, _ => rfl
  | s :: r, n, h => by
    have h1 := h s List.mem_cons_self
    simp only [cutS]
    rw [if_neg (by omega)]

theorem val_range : ∀ {l : List Sp} {q : Int}, Good l → val l q ≠ 0 → 0 < val l q ∧ val l q < 65536 ∧ ∃ t ∈ l, t.1 ≤ q ∧ q - t.1 < t.2.2
  | [], _, _, h => absurd rfl h
  | s :: r, q, hg, h => by
    simp only [val] at h ⊢
    obtain ⟨o1, o2, o3, o4, o5, o6⟩ := hg.head
    split
    · rename_i hc
      exact ⟨by omega, by omega, s, List.mem_cons_self, hc⟩
    · rename_i hc
      rw [if_neg hc] at h
      obtain ⟨a, b, t, ht, hq⟩ := val_range hg.tail h
      exact ⟨a, b, t, List.mem_cons_of_mem _ ht, hq⟩

theorem addS_cons {s : Sp} {l : List Sp} {x : Sp} (h : l ≠ []) : addS (s :: l) x = s :: addS l x := by
  have hl : 0 < l.length := List.length_pos_iff.2 h
  have e : lastSp (s :: l) = lastSp l := by
    unfold lastSp
    obtain ⟨n, hn⟩ : ∃ n, l.length = n + 1 := ⟨l.length - 1, by omega⟩
    simp [List.getD, hn]
  unfold addS
  rw [e]
  by_cases hj : joinsS (lastSp l) x = true
  · rw [if_pos ⟨by simp, hj⟩, if_pos ⟨hl, hj⟩]
    obtain ⟨n, hn⟩ : ∃ n, l.length = n + 1 := ⟨l.length - 1, by omega⟩
    simp [hn]
  · rw [if_neg (by simp [hj]), if_neg (by simp [hj])]
    rfl

/-- One place further. -/
theorem cut_step : ∀ (l : List Sp) (i : Int), Good l → 0 ≤ i → i ≤ 65536 → cutS l (i + 1) = if 0 < val l i ∧ val l i < 65536 then addS (cutS l i) (i, val l i, 1) else cutS l i
  | [], i, _, _, _ => by simp [cutS, val]
  | s :: r, i, hg, hi, hi2 => by
    obtain ⟨o1, o2, o3, o4, o5, o6⟩ := hg.head
    have hst := good_starts hg
    have ev : val (s :: r) i = if s.1 ≤ i ∧ i - s.1 < s.2.2 then s.2.1 + (i - s.1) else val r i := rfl
    have ec : ∀ n, cutS (s :: r) n = if s.1 < n then (s.1, s.2.1, (if n - s.1 < s.2.2 then n - s.1 else s.2.2)) :: cutS r n else [] := fun n => rfl
    generalize val (s :: r) i = v at ev ⊢
    rw [ec, ec]
    by_cases c1 : i < s.1
    · have hv : val r i = 0 := val_before fun t ht => by have := hst t ht; omega
      rw [if_neg (by omega), hv] at ev
      rw [if_neg (by omega), if_neg (by omega), if_neg (by omega)]
    · by_cases c2 : i < s.1 + s.2.2
      · have hr : ∀ n : Int, n ≤ s.1 + s.2.2 → cutS r n = [] := fun n hn => cut_before fun t ht => by have := hst t ht; omega
        rw [if_pos (show s.1 ≤ i ∧ i - s.1 < s.2.2 by omega)] at ev
        subst ev
        rw [if_pos (show s.1 < i + 1 by omega), hr (i + 1) (by omega), hr i (by omega), if_pos (show 0 < s.2.1 + (i - s.1) ∧ s.2.1 + (i - s.1) < 65536 by omega)]
        by_cases c3 : s.1 = i
        · rw [if_neg (show ¬ s.1 < i by omega)]
          have : (if i + 1 - s.1 < s.2.2 then i + 1 - s.1 else s.2.2) = 1 := by split <;> omega
          rw [this]
          unfold addS
          rw [if_neg (by simp)]
          simp [c3]
        · rw [if_pos (show s.1 < i by omega), if_pos (show i - s.1 < s.2.2 by omega)]
          have : (if i + 1 - s.1 < s.2.2 then i + 1 - s.1 else s.2.2) = i - s.1 + 1 := by split <;> omega
          rw [this]
          unfold addS
          have e1 : lastSp [(s.1, s.2.1, i - s.1)] = (s.1, s.2.1, i - s.1) := rfl
          rw [e1, joins_eq _ _ (by dsimp only; omega) (by dsimp only; omega) (by dsimp only; omega)]
          dsimp only
          rw [if_pos ⟨by simp, by simp; omega⟩, wrap64 (n := i - s.1 + 1) (by omega) (by omega)]
          rfl
      · have ih := cut_step r i hg.tail hi hi2
        rw [if_neg (show ¬ (s.1 ≤ i ∧ i - s.1 < s.2.2) by omega)] at ev
        subst ev
        rw [if_pos (show s.1 < i + 1 by omega), if_pos (show s.1 < i by omega), if_neg (show ¬ i + 1 - s.1 < s.2.2 by omega), if_neg (show ¬ i - s.1 < s.2.2 by omega), ih]
        split
        · rename_i hv
          by_cases hn : cutS r i = []
          · -- it begins here
            rw [hn]
            obtain ⟨_, _, t, ht, q1, q2⟩ := val_range hg.tail (show val r i ≠ 0 by omega)
            cases r with
            | nil => cases ht
            | cons b r =>
              have hb : ¬ b.1 < i := fun h => by simp [cutS, h] at hn
              have hb2 := hg.tail.head.2.2.1
              have hbt : b.1 ≤ t.1 := by
                rcases List.mem_cons.1 ht with rfl | ht
                · omega
                · have := good_starts hg.tail t ht
                  omega
              have hbi : b.1 = i := by omega
              have hvb : val (b :: r) i = b.2.1 := by
                simp only [val]
                rw [if_pos (by omega)]; omega
              have hne := hg.2.1.2
              unfold addS
              rw [if_neg (by simp), if_neg]
              · rfl
              · rintro ⟨_, hj⟩
                have e1 : lastSp [(s.1, s.2.1, s.2.2)] = s := rfl
                rw [e1, joins_eq _ _ (by omega) (by omega) (by omega)] at hj
                simp only [decide_eq_true_eq] at hj
                exact hne ⟨by omega, by omega⟩
          · exact (addS_cons hn).symm
        · rfl

/-- Spans of the blocks that f says. -/
def ofF (f : Int → Int) : Nat → List Sp
  | 0 => []
  | i + 1 => if 0 < f i ∧ f i < 65536 then addS (ofF f i) (i, f i, 1) else ofF f i

theorem ofF_val {l : List Sp} (h : Good l) : ∀ i : Nat, i ≤ 65536 → ofF (val l) i = cutS l i
  | 0, _ => by
    rw [ofF, cut_before]
    intro t ht
    exact (good_mem h t ht).1
  | i + 1, hi => by
    have := cut_step l i h (by omega) (by omega)
    rw [ofF, ofF_val h i (by omega)]
    rw [show ((i + 1 : Nat) : Int) = (i : Int) + 1 by omega, this]

theorem ofF_congr {f g : Int → Int} : ∀ i : Nat, (∀ q : Nat, q < i → (if 0 < f q ∧ f q < 65536 then f q else 0) = (if 0 < g q ∧ g q < 65536 then g q else 0)) → ofF f i = ofF g i
  | 0, _ => rfl
  | i + 1, h => by
    have h1 := h i (by omega)
    have h2 := ofF_congr i fun q hq => h q (by omega)
    simp only [ofF, h2]
    by_cases c : 0 < f i ∧ f i < 65536
    · rw [if_pos c] at h1
      have hg : 0 < g i ∧ g i < 65536 := by
        split at h1
        · assumption
        · omega
      rw [if_pos hg] at h1
      rw [if_pos c, if_pos hg, h1]
    · rw [if_neg c] at h1
      have hg : ¬ (0 < g i ∧ g i < 65536) := fun hg => by rw [if_pos hg] at h1; omega
      rw [if_neg c, if_neg hg]

theorem ofS_ofF (m : List Int) : ∀ i, ofS m i = ofF (fun q => m.getD q.toNat 0) i
  | 0 => rfl
  | i + 1 => by simp only [ofS, ofF, ofS_ofF m i, Int.toNat_natCast]

/-! ### Spans of a map are in order, and say the map -/

def clip (b : Int) : Int := if 0 < b ∧ b < 65536 then b else 0

/-- Ends lie at most at n. -/
def Ends (l : List Sp) (n : Int) : Prop := ∀ t ∈ l, t.1 + t.2.2 ≤ n

theorem val_append : ∀ (l r : List Sp) (q : Int), (∀ t ∈ r, q < t.1) → val (l ++ r) q = val l q
  | [], r, q, h => by rw [List.nil_append, val_before h]; rfl
  | s :: l, r, q, h => by
    simp only [List.cons_append, val, val_append l r q h]

theorem val_past : ∀ {l : List Sp} {q : Int}, Ends l q → val l q = 0
  | [], _, _ => rfl
  | s :: r, q, h => by
    have h1 := h s List.mem_cons_self
    simp only [val]
    rw [if_neg (by omega)]
    exact val_past fun t ht => h t (List.mem_cons_of_mem _ ht)

theorem okS_new {i b : Int} (h0 : 0 ≤ i) (h1 : i < 65536) (h2 : 0 < b) (h3 : b < 65536) : okS (i, b, 1) := by
  refine ⟨?_, ?_, ?_, ?_, ?_, ?_⟩ <;> dsimp only <;> omega

/-- One place more. -/
theorem add_good : ∀ (l : List Sp) (i b : Int), Good l → Ends l i → 0 ≤ i → i < 65536 → 0 < b → b < 65536 →
    Good (addS l (i, b, 1)) ∧ Ends (addS l (i, b, 1)) (i + 1) ∧ (∀ q, q < i → val (addS l (i, b, 1)) q = val l q) ∧ val (addS l (i, b, 1)) i = b ∧ (∀ s ∈ l.head?, ∃ s' ∈ (addS l (i, b, 1)).head?, s'.1 = s.1 ∧ s'.2.1 = s.2.1)
  | [], i, b, _, _, h0, h1, h2, h3 => by
    have e : addS [] (i, b, 1) = [(i, b, 1)] := rfl
    rw [e]
    refine ⟨okS_new h0 h1 h2 h3, fun t ht => ?_, fun q hq => ?_, ?_, fun s hs => by simp at hs⟩
    · simp only [List.mem_singleton] at ht
      subst ht; dsimp only; omega
    · simp only [val]; rw [if_neg (by omega)]
    · simp only [val]; rw [if_pos (by omega)]; omega
  | [s], i, b, hg, he, h0, h1, h2, h3 => by
    have hg' : okS s := hg
    obtain ⟨o1, o2, o3, o4, o5, o6⟩ := hg'
    have hg' : okS s := hg
    have hes := he s List.mem_cons_self
    have el : lastSp [s] = s := rfl
    by_cases hj : s.1 + s.2.2 = i ∧ s.2.1 + s.2.2 = b
    · have e : addS [s] (i, b, 1) = [(s.1, s.2.1, s.2.2 + 1)] := by
        unfold addS
        rw [el, joins_eq _ _ (by omega) (by omega) (by omega), if_pos ⟨by simp, by simpa using hj⟩, wrap64 (n := s.2.2 + 1) (by omega) (by omega)]
        rfl
      rw [e]
      refine ⟨⟨by dsimp only; omega, by dsimp only; omega, by dsimp only; omega, by dsimp only; omega, by dsimp only; omega, by dsimp only; omega⟩, fun t ht => ?_, fun q hq => ?_, ?_, fun t ht => ?_⟩
      · simp only [List.mem_singleton] at ht
        subst ht; dsimp only; omega
      · simp only [val]
        by_cases hq2 : s.1 ≤ q
        · rw [if_pos (by omega), if_pos (by omega)]
        · rw [if_neg (by omega), if_neg (by omega)]
      · simp only [val]; rw [if_pos (by omega)]; omega
      · simp only [List.head?_cons, Option.mem_def, Option.some.injEq] at ht
        subst ht; exact ⟨_, rfl, rfl, rfl⟩
    · have e : addS [s] (i, b, 1) = [s, (i, b, 1)] := by
        unfold addS
        rw [el, joins_eq _ _ (by omega) (by omega) (by omega), if_neg (by rintro ⟨_, h⟩; exact hj (by simpa using h))]
        rfl
      rw [e]
      refine ⟨⟨hg', ⟨hes, hj⟩, okS_new h0 h1 h2 h3⟩, fun t ht => ?_, fun q hq => ?_, ?_, fun t ht => ?_⟩
      · rcases List.mem_cons.1 ht with rfl | ht
        · omega
        · simp only [List.mem_singleton] at ht
          subst ht; dsimp only; omega
      · exact val_append [s] [(i, b, 1)] q fun t ht => by
          simp only [List.mem_singleton] at ht
          subst ht; exact hq
      · simp only [val]
        rw [if_neg (by omega), if_pos (by omega)]; omega
      · simp only [List.head?_cons, Option.mem_def, Option.some.injEq] at ht
        subst ht; exact ⟨_, rfl, rfl, rfl⟩
  | s :: c :: r, i, b, hg, he, h0, h1, h2, h3 => by
    obtain ⟨g1, g2, g3, g4, g5⟩ := add_good (c :: r) i b hg.2.2 (fun t ht => he t (List.mem_cons_of_mem _ ht)) h0 h1 h2 h3
    rw [addS_cons (by simp)]
    obtain ⟨c', hc', e1, e2⟩ := g5 c rfl
    have hes := he s List.mem_cons_self
    have hec := he c (by simp)
    have hokc := hg.2.2.head.2.2.1
    refine ⟨?_, fun t ht => ?_, fun q hq => ?_, ?_, fun t ht => ?_⟩
    · cases hx : addS (c :: r) (i, b, 1) with
      | nil => rw [hx] at hc'; cases hc'
      | cons d r' =>
        rw [hx] at hc' g1
        simp only [List.head?_cons, Option.mem_def, Option.some.injEq] at hc'
        subst hc'
        refine ⟨hg.1, ⟨by rw [e1]; exact hg.2.1.1, by rw [e1, e2]; exact hg.2.1.2⟩, g1⟩
    · rcases List.mem_cons.1 ht with rfl | ht
      · omega
      · exact g2 t ht
    · simp only [val, g3 q hq]
    · simp only [val] at g4 ⊢
      rw [if_neg (by omega)]; exact g4
    · simp only [List.head?_cons, Option.mem_def, Option.some.injEq] at ht
      subst ht; exact ⟨_, rfl, rfl, rfl⟩

theorem ofF_good (f : Int → Int) : ∀ i : Nat, i ≤ 65536 → Good (ofF f i) ∧ Ends (ofF f i) i ∧ ∀ q : Nat, q < i → val (ofF f i) q = clip (f q)
  | 0, _ => ⟨trivial, fun t ht => (by cases ht), fun q hq => by omega⟩
  | i + 1, h => by
    obtain ⟨g1, g2, g3⟩ := ofF_good f i (by omega)
    simp only [ofF]
    split
    · rename_i hc
      obtain ⟨k1, k2, k3, k4, _⟩ := add_good (ofF f i) i (f i) g1 g2 (by omega) (by omega) hc.1 hc.2
      refine ⟨k1, by rw [show ((i + 1 : Nat) : Int) = (i : Int) + 1 by omega]; exact k2, fun q hq => ?_⟩
      by_cases hqi : q = i
      · subst hqi; rw [k4, clip, if_pos hc]
      · rw [k3 q (by omega), g3 q (by omega)]
    · rename_i hc
      refine ⟨g1, fun t ht => by have := g2 t ht; omega, fun q hq => ?_⟩
      by_cases hqi : q = i
      · subst hqi; rw [val_past g2, clip, if_neg hc]
      · rw [g3 q (by omega)]

theorem clip_clip (b : Int) : (if 0 < clip b ∧ clip b < 65536 then clip b else 0) = clip b := by
  unfold clip
  split <;> simp_all

theorem ofS_good (m : List Int) (h : m.length ≤ 65536) : Good (ofS m m.length) ∧ Ends (ofS m m.length) m.length ∧ ∀ q : Nat, q < m.length → val (ofS m m.length) q = clip (m.getD q 0) := by
  rw [ofS_ofF]
  obtain ⟨h1, h2, h3⟩ := ofF_good (fun q => m.getD q.toNat 0) m.length h
  exact ⟨h1, h2, fun q hq => by rw [h3 q hq, Int.toNat_natCast]⟩

theorem cut_all : ∀ {l : List Sp} {n : Int}, Good l → Ends l n → cutS l n = l
  | [], _, _, _ => rfl
  | s :: r, n, hg, he => by
    have h1 := he s List.mem_cons_self
    have h2 := hg.head.2.2.1
    simp only [cutS]
    rw [if_pos (by omega), cut_all hg.tail fun t ht => he t (List.mem_cons_of_mem _ ht)]
    have : (if n - s.1 < s.2.2 then n - s.1 else s.2.2) = s.2.2 := by split <;> omega
    rw [this]

/-- The map of what is cut. -/
theorem cut_of (m : List Int) (h : m.length ≤ 65536) (c : Nat) (hc : c ≤ m.length) : cutS (ofS m m.length) c = ofS (m.take c) (m.take c).length := by
  obtain ⟨g1, g2, g3⟩ := ofS_good m h
  rw [← ofF_val g1 c (by omega), List.length_take, Nat.min_eq_left hc, ofS_ofF (m.take c) c]
  refine ofF_congr c fun q hq => ?_
  rw [g3 q (by omega), clip_clip, Int.toNat_natCast]
  have : (m.take c).getD q 0 = m.getD q 0 := by simp [List.getD, List.getElem?_take, hq]
  rw [this]; rfl

theorem cut_neg {l : List Sp} (h : Good l) {n : Int} (hn : n ≤ 0) : cutS l n = [] := cut_before fun t ht => by
  have := (good_mem h t ht).1
  omega

theorem cut_head (a b : Sp) (r : List Sp) (n : Int) (h : a.1 < n) : cutS (a :: r) n = (a.1, a.2.1, (if n - a.1 < a.2.2 then n - a.1 else a.2.2)) :: cutS r n := by simp only [cutS]; rw [if_pos h]

theorem cut_good : ∀ {l : List Sp} (n : Int), Good l → Good (cutS l n)
  | [], n, _ => trivial
  | [s], n, hg => by
    obtain ⟨o1, o2, o3, o4, o5, o6⟩ := (hg.head : okS s)
    simp only [cutS]
    split
    · rename_i h
      have : (if n - s.1 < s.2.2 then n - s.1 else s.2.2) ≤ s.2.2 ∧ 1 ≤ (if n - s.1 < s.2.2 then n - s.1 else s.2.2) := by split <;> omega
      generalize (if n - s.1 < s.2.2 then n - s.1 else s.2.2) = x at this
      show okS _
      refine ⟨?_, ?_, ?_, ?_, ?_, ?_⟩ <;> dsimp only <;> omega
    · trivial
  | s :: c :: r, n, hg => by
    obtain ⟨o1, o2, o3, o4, o5, o6⟩ := (hg.head : okS s)
    have ih := cut_good n hg.2.2
    by_cases h : s.1 < n
    · rw [cut_head s s (c :: r) n h]
      have hx : (if n - s.1 < s.2.2 then n - s.1 else s.2.2) ≤ s.2.2 ∧ 1 ≤ (if n - s.1 < s.2.2 then n - s.1 else s.2.2) := by split <;> omega
      by_cases hc : c.1 < n
      · rw [cut_head c c r n hc] at ih ⊢
        have hn := hg.2.1
        have e : (if n - s.1 < s.2.2 then n - s.1 else s.2.2) = s.2.2 := by
          have := hn.1
          split <;> omega
        rw [e]
        exact ⟨hg.head, hn, ih⟩
      · have : cutS (c :: r) n = [] := by simp only [cutS]; rw [if_neg hc]
        rw [this]
        generalize (if n - s.1 < s.2.2 then n - s.1 else s.2.2) = x at hx
        show okS _
        refine ⟨?_, ?_, ?_, ?_, ?_, ?_⟩ <;> dsimp only <;> omega
    · have : cutS (s :: c :: r) n = [] := by simp only [cutS]; rw [if_neg h]
      rw [this]; trivial

theorem cut_cut : ∀ (l : List Sp) (a b : Int), cutS (cutS l a) b = cutS l (if b < a then b else a)
  | [], a, b => by simp [cutS]
  | s :: r, a, b => by
    have ih := cut_cut r a b
    by_cases ha : s.1 < a
    · rw [cut_head s s r a ha]
      by_cases hb : s.1 < b
      · rw [cut_head (s.1, s.2.1, (if a - s.1 < s.2.2 then a - s.1 else s.2.2)) s (cutS r a) b hb, ih, cut_head s s r _ (by split <;> omega)]
        congr 1
        refine Prod.ext rfl (Prod.ext rfl ?_)
        dsimp only
        split <;> split <;> split <;> (try split) <;> omega
      · have e1 : ∀ x (q : List Sp), cutS ((s.1, s.2.1, x) :: q) b = [] := fun x q => by simp only [cutS]; rw [if_neg hb]
        rw [e1]
        simp only [cutS]
        rw [if_neg (by split <;> omega)]
    · have e1 : cutS (s :: r) a = [] := by simp only [cutS]; rw [if_neg ha]
      rw [e1]
      simp only [cutS]
      rw [if_neg (by split <;> omega)]

theorem wainwrightlaw04_SpansCut_row (x0 : List Int) (x1 x2 : Int) (w0 : wfD (.sl I) x0) (w1 : wfD I x1) (w2 : wfD I x2)
    (hb : bulk (.sl I) x0 + bulk I x1 + bulk I x2 ≤ 1048576) : wainwrightlaw04_SpansCut (x0, x1, x2) = some true := by
  have hl0 : x0.length < bulk (.sl I) x0 := bulk_ints x0
  obtain ⟨v1, v2⟩ := i64_wf w1
  obtain ⟨u1, u2⟩ := i64_wf w2
  have e0 : x0.length ≤ 1048576 := by omega
  have e2 : (x0.take 300).length ≤ 300 := by simp; omega
  unfold wainwrightlaw04_SpansCut
  simp only [lives_is, Option.bind_some, early_is x0 e0, Bool.not_true, Bool.false_eq_true, if_false]
  generalize x0.take 300 = m at e2
  obtain ⟨c, hc, hcm⟩ : ∃ c : Nat, (if (m.length : Int) < (if 0 > x1 then 0 else x1) then (m.length : Int) else (if 0 > x1 then 0 else x1)) = (c : Int) ∧ c ≤ m.length :=
by
    by_cases h1 : 0 > x1
    · exact ⟨0, by rw [if_pos h1, if_neg (by omega)]; rfl, by omega⟩
    · by_cases h2 : (m.length : Int) < x1
      · exact ⟨m.length, by rw [if_neg h1, if_pos h2], by omega⟩
      · exact ⟨x1.toNat, by rw [if_neg h1, if_neg h2]; omega, by omega⟩
  rw [hc, Of_is m (by omega)]
  simp only [Option.bind_some, Int.toNat_natCast]
  obtain ⟨g1, g2, g3⟩ := ofS_good m (by omega)
  have hlen := ofS_len m m.length
  rw [Cut_good (by omega) g1 c (by omega) (by omega), Option.bind_some, if_pos (show 0 ≤ (c : Int) ∧ (c : Int) ≤ (m.length : Int) by omega), Of_is (m.take c) (by simp; omega), cut_of m (by omega) c hcm]
  have hl2 := ofS_len (m.take c) (m.take c).length
  have hl3 : (m.take c).length ≤ 300 := by simp; omega
  simp only [Option.bind_some]
  rw [sameSp _ (by omega)]
  simp only [Option.bind_some, if_true]
  have hl4 := cutS_len (ofS m m.length) x1
  rw [Cut_good (by omega) g1 x1 v1 (by omega)]
  simp only [Option.bind_some]
  rw [Cut_good (by omega) (cut_good x1 g1) x2 u1 (by omega), Cut_good (by omega) g1 (if x2 < x1 then x2 else x1) (by split <;> omega) (by split <;> omega), cut_cut]
  simp only [Option.bind_some]
  have hl5 := cutS_len (ofS m m.length) (if x2 < x1 then x2 else x1)
  rw [sameSp _ (by omega)]
  rfl

end Go.Proofs.Ytnbhmifidhoblaa.Abs
